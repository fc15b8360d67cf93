/-
  Parts of the proof, merged by a program of the prover's own; no condition.
-/
import Derived.Test.YtigcfngmhpofjaaGreatDoorKTN3
import Derived.Shelf.LaysM
import Derived.Shelf.Small.Strs
import Derived.Shelf.Spec.SlicesInsert
import Derived.Shelf.Spec.SlicesInsertGrow
import Derived.Shelf.Spec.TrailingZeros
import Derived.Shelf.Strconv.Itoa3
import Derived.Shelf.Strings.Count
import Derived.Shelf.Strings.Cut
import Derived.Shelf.Strings.IndexAnyAll
import Derived.Shelf.Strings.LastIndex
import Derived.Shelf.Strings.OnBuilder
import Derived.Shelf.Strings.Search3
import Derived.Shelf.Unicode.ValidAny
import Derived.Shelf.Utf8.RuneCount
import Derived.Test.YtigcfngmhpofjaaGreatDoorProg
open Int renaming toNat_natCast->a7,toNat->a8,eq_ofNat_of_zero_le->o0,tmod->o8,tdiv->o9,add->x6,mul->ab3,mul_comm->ae0,natCast_mul->ag1,mul_nonneg->ag6
open List renaming drop_of_length_le->b7,length_take->c9,length_singleton->h9,length_drop->j0,length_append->j2,length_map->j3,getD_eq_getElem?_getD->j7,drop_zero->k9,length->o3,length_cons->o5,size_toArray->o6,getElem?_take_of_lt->p4,length_eq_zero_iff->p5,getElem?_append_right->p6,countP_le_length->p7,all_cons->s5,getElem?_eq_getElem->s6,map->s7,all->u0,length_nil->u3,countP_cons_of_neg->u5,getElem?_cons_zero->u6,nil_append->u9,getElem?_toArray->w5,append_assoc->w8,getElem?_append_left->x3,length_pos_iff->x4,any_cons->x5,map_append->x7,getElem?_take->x8,getElem?_cons_succ->x9,isEmpty->y7,take_of_length_le->y8,take->z7,map_congr_left->aa4,drop->aa5,getElem?_eq_some_iff->ab1,countP_cons_of_pos->ab6,filter_cons_of_neg->ab7,filter_cons_of_pos->ab8,getElem_cons_drop->ac2,map_nil->ac3,mem_of_mem_drop->ad1,countP_pos_iff->ad5,map_cons->ad6,map_map->ae1,isEmpty_nil->af1,take_length->af2,append->af6,isPrefixOf->ag2,all_map->ai2,map_id->aj6
open Eq renaming trans->b8
open Go.Proofs.Tryz renaming prog->b9,underlying3->aa0,underlying4->aa1,zeroValue3->aa2,zeroValue4->aa3,underlying5->ab9,underlying9->ac0,sizeOf3->ac4,sizeOf4->ac5,zeroValue5->ac8,zeroValue9->ac9,isAgg3->ad2,isAgg4->ad3,underlying105->ad7,underlying142->ad8,f61->ae4,f69->ae5,sizeOf5->ae6,sizeOf9->ae7,underlying84->ae8,zeroValue105->ae9,zeroValue142->af0,underlying0->af4,zeroValue84->af5,isAgg5->af8,isAgg9->af9,zeroValue0->ag5,f16->ag8,f62->ag9,f65->ah0,f70->ah1,f85->ah2,f87->ah3,sizeOf105->ah4,sizeOf142->ah5,isAgg105->ah7,isAgg142->ah8,sizeOf84->ah9,f110->ai1,func106->ai8,func107->ai9,func108->aj0,func109->aj1,func126->aj2,func127->aj3,isAgg84->aj4,sizeOf0->aj5,f14->aj7,f25->aj8,f29->aj9,f44->ak0,f51->ak1,f52->ak2,f96->ak3,func67->ak4,func93->ak5,isAgg0->ak6
open Bool renaming not_false->j1,eq_false_iff->j4,not_true->j5,and_eq_true->p9,true_and->r9,and_true->v7,false_or->v8,false_eq_true->aa7,false_and->ad0,eq_iff_iff->ag0
open Nat renaming ble->j6,ble_eq->j9,div_le_self->s8,mul_one->u7,ble_eq_true_of_le->w6,le_refl->y5,le_of_ble_eq_true->y9,mod_lt->aa8,pow_succ->ae2,le_zero->af7,strongRecOn->ag3,mul_le_mul->ag7,add_zero->ai3,le_trans->ai4,sub_self->ai5,sub_zero->ai6,zero_add->ai7
open Go.Value renaming int->j8
open Option.some renaming injEq->o7,inj->ag4
open UInt8 renaming ofNat->s9,toNat->ab4
open Array renaming length_toList->u4,getElem?_append_left->aa6,getElem?_eq_getElem->aa9,size_append->ad9
open Go.Fn renaming func->w9
open Classical renaming byContradiction->ab0
open Function renaming comp_def->ab2
open Go.World renaming frozen?->ab5,shape?->ac6,cell?->ad4
open Go.Shelf renaming Ren->ac1
open Option renaming map_some->ac7,getD_some->af3
open Go.RowKit.Below renaming refl->ae3
open Prod.mk renaming injEq->ah6
open Go.Lib renaming index->ai0
open Go.Proofs.Lays renaming n138->ak7,n143->ak8,n149->ak9
open Go.Proofs.Lays2 renaming n21->al0
namespace Go.Proofs.YtigcfngmhpofjaaGreatDoor.E
set_option linter.all false
section
open Go Go.Proofs
set_option maxRecDepth 100000
section
variable {W R : Type} (Y : Nat) (J : C9) (Q : Yh W) (s : W) (k : Out -> St W -> Option R)
noncomputable def AG(Y:Nat):Cfg:=D1 Y [49] (A5 []) [] (A5 [(1,[6]),(0,[3,0,0])]) [] (A5 []) (some [6]) [] [] []
noncomputable def XA{R:Type}(Y:Nat)(d b:By)(a:Int)(c:By->By->Int->Option R):Option R:=c d b a
theorem XB(d:Nat)(a sep1 sepSave2):evC (AG Y) (d+1) W Q 49 [pS a,pS sep1,pI sepSave2] [] s=XA Y a sep1 sepSave2 (λa c b=>some (.fnr (w9 65) [] [.ptr 1 0 0,.ptr 0 0 0,.ptr 2 0 0],[.box [pS a],.box [pS c],.box [pI b]],s)):=by refine(evE (fn:=Tryz.f49) (by kernel_rfl)).trans ?_;generalize evC (AG Y) d=J;unfold XA;kernel_rfl
noncomputable def JT(Y:Nat):Cfg:=D1 Y [28] (A5 []) [(49,Yv)] (A5 [(1,[4]),(0,[0,0])]) [] (A5 []) (some [4]) [] [] []
noncomputable def Ap1{R:Type}(Y:Nat)(c a:By)(b:By->By->Option R):Option R:=b c a
theorem Ag6(d:Nat)(a sep1):evC (JT Y) (d+1) W Q 28 [pS a,pS sep1] [] s=Ap1 Y a sep1 (λa b=>some (.fnr (w9 65) [] [.ptr 1 0 0,.ptr 0 0 0,.ptr 2 0 0],[.box [pS a],.box [pS b],.box [pI (0:Int)]],s)):=by refine(evE (fn:=Tryz.f28) (by kernel_rfl)).trans ?_;generalize evC (JT Y) d=J;unfold Ap1;kernel_rfl
noncomputable abbrev Wk:Code:=F6 ag8
noncomputable def Gl(Y:Nat):Cfg:=D1 Y [16] (A5 []) [(27,Mw),(28,IY),(29,IS)] (A5 [(7,[2]),(6,[2]),(5,[2,13]),(4,[2,0]),(3,[2,9]),(2,[2]),(1,[0,1,7]),(0,[0,1])]) [27,29] (A5 [(0,[2]),(1,[2])]) (some [2]) [] [(65,Qm)] []
noncomputable def Qq{R:Type}(Y:Nat)(a:By)(xs:List By)(self:Unit->Option R)(c:Unit->Option R)(b:Unit->Option R):Option R:=cond (A7 a.length) (cond (not (X9 a)) (b ()) (self ())) none
noncomputable def Tg{R:Type}(Y:Nat)(L:List By)(b:Unit->Option R)(c:Unit->Option R):Option R:=Av1 (α:=Unit->Option R) (λ_=>b ()) (λa xs self _=>Qq Y a xs self  b c) L ()
theorem EZ{R:Type}(Y:Nat)(a:By)(xs:List By)(b:Unit->Option R)(c:Unit->Option R):Tg Y (a::xs)  b c=Qq Y a xs (λ_=>Tg Y xs  b c)  b c:=rfl
theorem SO(L:List By):R0 #[13] (gp [(2,.ptr 0 0 0),(9,.fnr (w9 65) [] [.bad,.bad,.bad])] 4) (bd (Gl Y) J Q (cd [1,1,0,1,0,0] Wk)) (bd (Gl Y) J Q (cd [1,1,0,1,0,1] Wk)) (L.map (λ(a:By)=>([pS a]:List PV))) [.box [pB false],.dead,.dead,.dead] s (rgK (gp [(2,.ptr 0 0 0),(9,.fnr (w9 65) [] [.bad,.bad,.bad])] 4) (λH=>R7 H [2,1,3] [.box [.bad],.box [.bad],.box [.bad]]) k) =
 Tg Y L  (λ_=>k .normal ⟨gp [(2,.ptr 0 0 0),(9,.fnr (w9 65) [] [.bad,.bad,.bad])] 4,[.box [pB false],.box [.bad],.box [.bad],.box [.bad]],s⟩) (λ_=>k .ret ⟨gp [(2,.ptr 0 0 0),(9,.fnr (w9 65) [] [.bad,.bad,.bad])] 4,[.box [pB false],.box [.bad],.box [.bad],.box [.bad]],s⟩):=by
 induction L with
 | nil=>rfl
 | cons a xs b=>rw[EZ];unfold Qq;exact(b8 (by kernel_rfl) (A1 (A1 rfl b) rfl))
noncomputable def AT{R:Type}(Y:Nat)(a:By)(b:Unit->Option R)(c:Unit->Option R):Option R:=cond ((A7 a.length)&&((1==1)&&((0:Int)==0))) (Tg Y (pcs (List.getD ([46]:List UInt8) 0 0) a)  b c) none
abbrev EY(b:Code):Prop:=∀(k:Out->St W->Option R) s0,B2 (Gl Y) J Q b ⟨gp [(2,.ptr 0 0 0),(9,.fnr (w9 65) [] [.ptr 2 0 0,.ptr 1 0 0,.ptr 3 0 0])] 4,[.box [pB false],.box [pS s0],.box [pS ([46]:List UInt8)],.box [pI (0:Int)]],s⟩ k=AT Y s0 (λ_=>k .normal ⟨gp [(2,.ptr 0 0 0),(9,.fnr (w9 65) [] [.bad,.bad,.bad])] 4,[.box [pB false],.box [.bad],.box [.bad],.box [.bad]],s⟩) (λ_=>k .ret ⟨gp [(2,.ptr 0 0 0),(9,.fnr (w9 65) [] [.bad,.bad,.bad])] 4,[.box [pB false],.box [.bad],.box [.bad],.box [.bad]],s⟩)
theorem SN:EY (R:=R) Y J Q s (cd [1,1,0,1,0] Wk):=by intro k a;unfold AT;exact((At9 [1,1,0,1,0] (by kernel_rfl)).trans (by kernel_rfl)).trans (LP (SO Y J Q s k (pcs (List.getD ([46]:List UInt8) 0 0) a) ))
noncomputable def hvn{R:Type}(Y:Nat)(a:By)(b:Unit->Option R)(c:Bool->Bool->Option R):Option R:=cond (ltI 253 (a.length:Int)) (b ()) (cond (A7 a.length) (cond (P0 a) (b ()) (AT Y a (λ_=>c true true) (λ_=>c false false))) none)
theorem An6(a:Code)(c:EY (R:=PV × List Blk × W) Y J Q s a)(b:By):B2 (Gl Y) J Q (cd [] (O0 [1,1,0,1,0] a Wk)) ⟨[pS b]++tps 16,[],s⟩ (K6 (Gl Y) ag8)=hvn Y b (λ_=>some (pB false,[.box [pB false]],s)) (λe d=>some (pB e,[.box [pB d],.box [.bad],.box [.bad],.box [.bad]],s)):=by unfold hvn;exact(b8 (by kernel_rfl) (A1 rfl (A1 (A1 rfl ((c (H4 0 (I1 (Gl Y) J Q (cd [1,1,1] Wk) (K6 (Gl Y) ag8))) b).trans (by kernel_rfl))) rfl)))
theorem An7(d:Nat)(name0):evC (Gl Y) (d+1) W Q 16 [pS name0] [] s=hvn Y name0 (λ_=>some (pB false,[.box [pB false]],s)) (λb a=>some (pB b,[.box [pB a],.box [.bad],.box [.bad],.box [.bad]],s)):=
 (evE (fn:=ag8) (by kernel_rfl)).trans (b8 (by kernel_rfl) (An6 Y (evC (Gl Y) d) Q s (cd [1,1,0,1,0] Wk) (SN Y (evC (Gl Y) d) Q s) name0))
noncomputable abbrev Ki:Code:=F6 ah0
noncomputable def Q7(Y:Nat):Cfg:=D1 Y [65] (A5 [(5,[0,0,0,0]),(1,[0,1])]) [(66,Kf),(67,Zm)] (A5 [(10,[]),(9,[0,0,0,0]),(8,[0,0,0,0,3,34]),(7,[0,0,0,0,3,0]),(6,[0,0,0,0,3,25]),(5,[0,0,0,0,3]),(4,[0,1]),(3,[0,1,3,18]),(2,[0,1,3]),(1,[0,1,11]),(0,[0,0,0,0,7])]) [67] (A5 [(2,[0,1]),(3,[0,0,0,0]),(0,[]),(1,[0,1])]) (some []) [] [] []
noncomputable def Vc{W R:Type}(Q:Yh W)(Y n:Nat)(d a:By)(c:Int)(s:W)(b:By->By->Int->W->Option R):Option R:=match n with|0=>none|n+1=>cond (ltI 0 (a.length:Int)) none (b d a c s)
theorem HT(n:Nat)(b c:By)(a:Int)(s:W):E2 3 ((Q7 Y).keep 1) (bd (Q7 Y) J Q (cd [0,1,0,0,0,0] Ki)) n ⟨gp [(0,.yd),(1,.ptr 1 0 0)] 49,[.box [pS b],.box [pS c],.box [pI a]],s⟩ k =
 Vc Q Y n b c a s (λb c a s=>k (.exit 0) ⟨gp [] 52,[.box [pS b],.box [pS c],.box [pI a]],s⟩):=by
 induction n generalizing b c a s with
 | zero=>rfl
 | succ n d=>rw[Vc];kernel_rfl
noncomputable def L8{W R:Type}(Q:Yh W)(Y n:Nat)(c a:By)(g:Int)(s:W)(i:By->By->Int->W->Option R)(j:By->By->Int->W->Option R):Option R:=match n with
 | 0=>none
 | n+1=>
  cond (A7 a.length)
   (cond (ltI (ai0 a c) (0:Int))
   (i c a g s)
   (vl (A2 ((ai0 a c)+g)) λe=>
    cond (O2 0 e a.length)
    (ydK (Q [pS (cut a 0 e)] s) λd b=>
     (cond (not d)
     (j c a g b)
     (vl (A2 ((ai0 a c)+(c.length:Int))) λf=>
      cond (O2 f (a.length:Int) a.length)
      (vl (cut a f (a.length:Int)) λh=>
       L8 Q Y n c h g b i j)
      none)))
    none))
   none
theorem HU(n:Nat)(b c:By)(a:Int)(s:W):E2 3 ((Q7 Y).keep 5) (bd (Q7 Y) J Q (cd [1,0,0,0] Ki)) n ⟨gp [(0,.yd),(0,.ptr 0 0 0),(0,.ptr 1 0 0),(0,.ptr 2 0 0)] 48,[.box [pS b],.box [pS c],.box [pI a]],s⟩ k =
 L8 Q Y n b c a s (λb c a s=>k (.exit 2) ⟨gp [(0,.yd),(1,.ptr 1 0 0)] 49,[.box [pS b],.box [pS c],.box [pI a]],s⟩) (λb c a s=>k .ret ⟨gp [] 52,[.box [pS b],.box [pS c],.box [pI a]],s⟩):=by
 induction n generalizing b c a s with
 | zero=>rfl
 | succ n d=>rw[L8];simp only[<-d];kernel_rfl
noncomputable def HS{W R:Type}(Q:Yh W)(Y:Nat)(p t:By)(n:Int)(s:W)(j:By->By->Int->W->Option R):Option R:=
 cond ((p.length:Int)==0)
 (Vc Q Y Y p t n s (λm o l q=>j m o l q))
 (L8 Q Y Y p t n s (λr a c e=>ydK (Q [pS a] e) λi b=>
  (j r a c b)) (λf g d h=>j f g d h))
theorem YK(d:Nat)(p t n s):evC (Q7 Y) (d+1) W Q 65 [.yd,.ptr 0 0 0,.ptr 1 0 0,.ptr 2 0 0] [.box [pS p],.box [pS t],.box [pI n]] s=HS Q Y p t n s (λb c a s=>some (.tup [],[.box [pS b],.box [pS c],.box [pI a]],s)):=by refine(evE (fn:=ah0) (by kernel_rfl)).trans ?_;generalize evC (Q7 Y) d=J;unfold HS;exact(b8 (by kernel_rfl) (A1 ((HT Y J Q (H4 0 (I1 (Q7 Y) J Q (cd [0,1,0,1] Ki) (I1 (Q7 Y) J Q (cd [1] Ki) (K6 (Q7 Y) ah0)))) Y p t n s).trans (by kernel_rfl)) ((HU Y J Q (H4 2 (I1 (Q7 Y) J Q (cd [1,1] Ki) (K6 (Q7 Y) ah0))) Y p t n s).trans (by kernel_rfl))))
end
end
end Go.Proofs.YtigcfngmhpofjaaGreatDoor.E
namespace Go.Proofs
open Go.Shelf
def Tryz.lays143_ren:ac1:=⟨fun|143=>67|219=>93|217=>106|225=>107|224=>108|267=>109|266=>126|314=>127|n=>n,fun|9=>9|3=>3|4=>4|5=>5|46=>84|146=>142|51=>105|n=>n,fun|1=>0|n=>n⟩
theorem Tryz.lays143:ak8 b9 Tryz.lays143_ren:={
 mixed:=by kernel_rfl
 f143:=ak4.trans (congrArg some (by kernel_rfl))
 f217:=ai8.trans (congrArg some (by kernel_rfl))
 f219:=ak5.trans (congrArg some (by kernel_rfl))
 f224:=aj0.trans (congrArg some (by kernel_rfl))
 f225:=ai9.trans (congrArg some (by kernel_rfl))
 f266:=aj2.trans (congrArg some (by kernel_rfl))
 f267:=aj1.trans (congrArg some (by kernel_rfl))
 f314:=aj3.trans (congrArg some (by kernel_rfl))
 t3:=aa0
 a3:=ad2
 z3:=ac4
 v3:=aa2
 t4:=aa1
 a4:=ad3
 z4:=ac5
 v4:=aa3
 t5:=ab9
 a5:=af8
 z5:=ae6
 v5:=ac8
 t9:=ac0
 a9:=af9
 z9:=ae7
 v9:=ac9
 t46:=ae8
 a46:=aj4
 z46:=ah9
 v46:=af5
 t51:=ad7
 a51:=ah7
 z51:=ah4
 v51:=ae9
 t146:=ad8
 a146:=ah8
 z146:=ah5
 v146:=af0
 g1:=by kernel_rfl }
def Tryz.lays138_ren:ac1:=⟨fun|138=>105|195=>124|218=>125|143=>67|219=>93|217=>106|225=>107|224=>108|267=>109|266=>126|314=>127|n=>n,fun|9=>9|3=>3|4=>4|5=>5|0=>0|46=>84|146=>142|51=>105|n=>n,fun|1=>0|n=>n⟩
theorem Tryz.lays138:ak7 b9 Tryz.lays138_ren:={
 mixed:=by kernel_rfl
 f138:=Tryz.func105.trans (congrArg some (by kernel_rfl))
 f143:=ak4.trans (congrArg some (by kernel_rfl))
 f195:=Tryz.func124.trans (congrArg some (by kernel_rfl))
 f217:=ai8.trans (congrArg some (by kernel_rfl))
 f218:=Tryz.func125.trans (congrArg some (by kernel_rfl))
 f219:=ak5.trans (congrArg some (by kernel_rfl))
 f224:=aj0.trans (congrArg some (by kernel_rfl))
 f225:=ai9.trans (congrArg some (by kernel_rfl))
 f266:=aj2.trans (congrArg some (by kernel_rfl))
 f267:=aj1.trans (congrArg some (by kernel_rfl))
 f314:=aj3.trans (congrArg some (by kernel_rfl))
 t0:=af4
 a0:=ak6
 z0:=aj5
 v0:=ag5
 t3:=aa0
 a3:=ad2
 z3:=ac4
 v3:=aa2
 t4:=aa1
 a4:=ad3
 z4:=ac5
 v4:=aa3
 t5:=ab9
 a5:=af8
 z5:=ae6
 v5:=ac8
 t9:=ac0
 a9:=af9
 z9:=ae7
 v9:=ac9
 t46:=ae8
 a46:=aj4
 z46:=ah9
 v46:=af5
 t51:=ad7
 a51:=ah7
 z51:=ah4
 v51:=ae9
 t146:=ad8
 a146:=ah8
 z146:=ah5
 v146:=af0
 g1:=by kernel_rfl }
def Tryz.lays2_21_ren:ac1:=⟨fun|21=>111|27=>129|28=>130|35=>135|39=>137|n=>n,fun|22=>87|3=>3|4=>4|0=>0|n=>n,fun|n=>n⟩
theorem Tryz.lays2_21:al0 b9 Tryz.lays2_21_ren:={
 mixed:=by kernel_rfl
 f21:=Tryz.func111.trans (congrArg some (by kernel_rfl))
 f27:=Tryz.func129.trans (congrArg some (by kernel_rfl))
 f28:=Tryz.func130.trans (congrArg some (by kernel_rfl))
 f35:=Tryz.func135.trans (congrArg some (by kernel_rfl))
 f39:=Tryz.func137.trans (congrArg some (by kernel_rfl))
 t0:=af4
 a0:=ak6
 z0:=aj5
 v0:=ag5
 t3:=aa0
 a3:=ad2
 z3:=ac4
 v3:=aa2
 t4:=aa1
 a4:=ad3
 z4:=ac5
 v4:=aa3
 t22:=Tryz.underlying87
 a22:=Tryz.isAgg87
 z22:=Tryz.sizeOf87
 v22:=Tryz.zeroValue87
 i3:=by kernel_rfl }
def Tryz.lays149_ren:ac1:=⟨fun|149=>31|222=>52|n=>n,fun|9=>9|5=>5|3=>3|4=>4|n=>n,fun|n=>n⟩
theorem Tryz.lays149:ak9 b9 Tryz.lays149_ren:={
 mixed:=by kernel_rfl
 f149:=Tryz.func31.trans (congrArg some (by kernel_rfl))
 f222:=Tryz.func52.trans (congrArg some (by kernel_rfl))
 t3:=aa0
 a3:=ad2
 z3:=ac4
 v3:=aa2
 t4:=aa1
 a4:=ad3
 z4:=ac5
 v4:=aa3
 t5:=ab9
 a5:=af8
 z5:=ae6
 v5:=ac8
 t9:=ac0
 a9:=af9
 z9:=ae7
 v9:=ac9 }
end Go.Proofs
namespace Go.Proofs.YtigcfngmhpofjaaGreatDoor.E
set_option linter.all false
section
open Go Go.Proofs Go.Sort
set_option maxRecDepth 100000
theorem An4{C:Cfg}{St:Nat->Prop}{w:World}(a:GOK C St w)(b:C.G=GX):∃m,w.cell? ⟨0,0,none⟩=some (.int .i64 m):=(a.2 _ (by rw[b];rfl)).2
theorem ZM:B7 b9 GX 67 Zm:=by
 refine B7.fix (pf:=Zn) _ (Hj (fn:=Tryz.f67) (by kernel_rfl) (by kernel_rfl) (by kernel_rfl) ?_);intro args ret o h;unfold Zn at h;split at h
 ·rename_i s p;obtain⟨b,h⟩:=G5 h;obtain⟨rfl,rfl⟩:=N0 h;refine⟨rfl,rfl,λC r a t w q c f d=>?_⟩;obtain⟨U,V,rfl,j,k⟩:=d.arr2;obtain⟨n,rfl,rfl⟩:=j.inv_str;obtain⟨l,rfl,rfl⟩:=k.inv_str;obtain⟨m,g⟩:=An4 c a;have i:=Z8 b;refine(Any.strings_Index Tryz.lays143 n l m w (by simp at i;omega) g).mono ?_;rintro e w' ⟨rfl,rfl⟩;exact⟨_,rfl,ae3 _ _,VP.mk_int _ _⟩
 ·cases h
theorem Ar7:B7 b9 GX 105 VN:=by
 refine B7.fix (pf:=Zl) _ (Hj (fn:=Tryz.f105) (by kernel_rfl) (by kernel_rfl) (by kernel_rfl) ?_);intro args ret o h;unfold Zl at h;split at h
 ·rename_i s p;obtain⟨f,h⟩:=G5 h;obtain⟨rfl,rfl⟩:=N0 h;refine⟨rfl,rfl,λC t g u w q r j i=>?_⟩;obtain⟨U,V,rfl,l,m⟩:=i.arr2;obtain⟨n,rfl,rfl⟩:=l.inv_str;obtain⟨b,rfl,k⟩:=m.inv_str;obtain⟨c,rfl⟩:∃c,p=[c]:=by
   match p,f with
   | [c],_=>exact⟨c,rfl⟩
  have a:b=⟨#[c]⟩:=by
   cases b with
   | mk d=>congr 1;exact Array.toList_inj.1 k
  subst a;refine(Any.strings_Count_one Tryz.lays138 n c w).mono ?_;rintro e w' ⟨rfl,rfl⟩;exact⟨_,rfl,ae3 _ _,VP.mk_int _ _⟩
 ·cases h
end
section
open Go Go.Proofs
set_option maxRecDepth 100000
section
variable {W R : Type} (L : Nat) (Y : C9) (Q : Yh W) (s : W) (k : Out -> St W -> Option R)
noncomputable abbrev PU:Code:=F6 ak1
noncomputable def En(L:Nat):Cfg:=D1 L [51] (A5 [(6,[0,1,0,1,10,0,0])]) [(69,VH),(70,VI)] (A5 [(13,[2]),(12,[0,3,0,2]),(11,[0,2,1,10,0,0]),(10,[0,2,1,10,0,0]),(9,[2]),(8,[0,2,1,1,8,0,0,8]),(7,[0,2,1,1,8,0,0]),(6,[0,2,1,10,0,0,0]),(5,[0,2,1,10,0,0]),(4,[0,2,1]),(3,[2]),(2,[0,2,11]),(1,[0,2,0]),(0,[0])]) [70] (A5 [(0,[0,2,1]),(1,[0,2,1,10,0,0])]) (some [2]) [] [] []
noncomputable def O7{R:Type}(L n:Nat)(i:By)(b:Bool)(a:LL)(c:Bool)(h e:Int)(f:Unit->Option R)(g:By->Bool->LL->Bool->Option R):Option R:=match n with|0=>none|n+1=>cond (ltI e h) (cond (inR e a.length) (cond (okE Ed a (a8 e) 0) (vl (gE a (a8 e) 0) λd=>cond (not (ltI d 65)) (cond (not (ltI 90 d)) (f ()) (cond c (O7 L n i b a (ltI d 128) h (A2 (e+1)) f g) (O7 L n i b a false h (A2 (e+1)) f g))) (cond c (O7 L n i b a (ltI d 128) h (A2 (e+1)) f g) (O7 L n i b a false h (A2 (e+1)) f g))) none) none) (g i b a c)
theorem FL(n d a b c n4 n5):E2 0 ((En L).keep 6) (bd (En L) Y Q (cd [1,1,1,1,0,1,0,0] PU)) n ⟨gp [(0,pS d),(2,.s (.sl a a 1 b)),(1,pB c),(10,.s (.sl a a 1 b)),(0,pI n4),(0,pI n5)] 31,[],s⟩ k =
 O7 L n d a b c n4 n5 (λ_=>k .ret ⟨gp [(2,pB false)] 47,[],s⟩) (λd a b c=>k (.exit 0) ⟨gp [(0,pS d),(2,.s (.sl a a 1 b)),(1,pB c)] 44,[],s⟩):=by
 induction n generalizing d a b c n4 n5 with
 | zero=>rfl
 | succ n e=>rw[O7];simp only[<-e];kernel_rfl
noncomputable def QL{R:Type}(L:Nat)(d:By)(e:Bool->Option R):Option R:=cond (A7 d.length) (cond ((↑((I3 d)).2:Int)!=0) (e false) (O7 L L d (y7 ((I3 d)).1) (Qi ((I3 d)).1) true (↑(o3 (Qi ((I3 d)).1)):Int) 0 (λ_=>e false) (λg c a b=>cond (u0 a Lb) (vl ((V6 (s7 elI a))).1 λh=>vl (↑((V6 (s7 elI a))).2:Int) λf=>cond (not b) (cond (f==0) (e (h==g)) (e false)) (e false)) none))) none
theorem WZ(d:Nat)(s0):evC (En L) (d+1) W Q 51 [pS s0] [] s=QL L s0 (λa=>some (pB a,[],s)):=by refine(evE (fn:=ak1) (by kernel_rfl)).trans ?_;generalize evC (En L) d=Y;unfold QL;exact(b8 (by kernel_rfl) (A1 (A1 rfl ((FL L Y Q s (H4 0 (I1 (En L) Y Q (cd [1,1,1,1,1] PU) (K6 (En L) ak1))) L s0 (y7 ((I3 s0)).1) (Qi ((I3 s0)).1) true (↑(o3 (Qi ((I3 s0)).1)):Int) 0).trans (by kernel_rfl))) rfl))
noncomputable abbrev VU:Code:=F6 aj9
noncomputable def Jm(L:Nat):Cfg:=D1 L [29] (A5 [(4,[0,1,26,0])]) [(50,VF),(51,PI)] (A5 [(11,[2]),(10,[5,0]),(9,[0,28,0]),(8,[2]),(7,[0,28,0,28]),(6,[0,3,24,0]),(5,[0,2,25,0]),(4,[0,28,0,0]),(3,[0,28,0]),(2,[2]),(1,[0,26]),(0,[0])]) [50,51] (A5 [(0,[0]),(1,[0,28,0])]) (some [2]) [] [] []
noncomputable def L2{R:Type}(L n:Nat)(b:By)(e a:Int)(c:Unit->Option R)(d:By->Option R):Option R:=match n with|0=>none|n+1=>cond (ltI a e) (cond (inR a b.length) (cond (not (ltI (bAt b a) (97:Int))) (cond (not (not (ltI 122 (bAt b a)))) (cond (not (ltI (bAt b a) (48:Int))) (cond (not (not (ltI 57 (bAt b a)))) (cond ((bAt b a)!=45) (cond ((bAt b a)!=95) (c ()) (L2 L n b e (A2 (a+1)) c d)) (L2 L n b e (A2 (a+1)) c d)) (L2 L n b e (A2 (a+1)) c d)) (cond ((bAt b a)!=45) (cond ((bAt b a)!=95) (c ()) (L2 L n b e (A2 (a+1)) c d)) (L2 L n b e (A2 (a+1)) c d))) (L2 L n b e (A2 (a+1)) c d)) (cond (not (ltI (bAt b a) (48:Int))) (cond (not (not (ltI 57 (bAt b a)))) (cond ((bAt b a)!=45) (cond ((bAt b a)!=95) (c ()) (L2 L n b e (A2 (a+1)) c d)) (L2 L n b e (A2 (a+1)) c d)) (L2 L n b e (A2 (a+1)) c d)) (cond ((bAt b a)!=45) (cond ((bAt b a)!=95) (c ()) (L2 L n b e (A2 (a+1)) c d)) (L2 L n b e (A2 (a+1)) c d)))) none) (d b)
theorem LI(n a n1 n2):E2 0 ((Jm L).keep 4) (bd (Jm L) Y Q (cd [1,1,0,1,0,0] VU)) n ⟨gp [(0,pS a),(28,pI n1),(0,pI n2)] 41,[],s⟩ k =
 L2 L n a n1 n2 (λ_=>k .ret ⟨gp [(2,pB false)] 69,[],s⟩) (λa=>k (.exit 0) ⟨gp [(0,pS a)] 71,[],s⟩):=by
 induction n generalizing a n1 n2 with
 | zero=>rfl
 | succ n b=>rw[L2];simp only[<-b];kernel_rfl
noncomputable def Ac7{R:Type}(L:Nat)(a:By)(b:Bool->Option R):Option R:=cond (ltI (a.length:Int) (1:Int)) (b false) (cond (ltI 63 (a.length:Int)) (b false) (cond (inR 0 a.length) (cond ((bAt a (0:Int))==45) (b false) (vl (A2 ((a.length:Int)-1)) λd=>cond (inR d a.length) (cond ((bAt a d)==45) (b false) (L2 L L a (a.length:Int) 0 (λ_=>b false) (λc=>cond (A7 c.length) (vl (Su c ([120,110,45,45]:List UInt8)) λe=>cond (not (ag2 ([120,110,45,45]:List UInt8) c)) (b true) (cond (A7 e.length) (b (Y3 e)) none)) none))) none)) none))
theorem Ac8(d:Nat)(s0):evC (Jm L) (d+1) W Q 29 [pS s0] [] s=Ac7 L s0 (λb=>some (pB b,[],s)):=by refine(evE (fn:=aj9) (by kernel_rfl)).trans ?_;generalize evC (Jm L) d=Y;unfold Ac7;exact(b8 (by kernel_rfl) (A1 rfl (A1 rfl (A1 (A1 rfl (A6 λa=>(A1 (A1 rfl ((LI L Y Q s (H4 0 (I1 (Jm L) Y Q (cd [1,1,1] VU) (K6 (Jm L) aj9))) L s0 (s0.length:Int) 0).trans (by kernel_rfl))) rfl))) rfl))))
end
section
variable {W R : Type} (L : Nat) (Y : C9) (Q : Yh W) (s : W) (k : Out -> St W -> Option R)
noncomputable def JR(L:Nat):Cfg:=D1 L [112] (A5 []) [] (A5 [(2,[2]),(1,[1,1]),(0,[1])]) [] (A5 []) (some [2]) [] [] []
noncomputable def Ao6{R:Type}(L:Nat)(b:Int)(a:Int->Option R):Option R:=a b
theorem Ae3(d:Nat)(b):evC (JR L) (d+1) W Q 112 [pI b] [] s=Ao6 L b (λn0=>some (.fnr (w9 131) [] [.ptr 1 0 0,.ptr 0 0 0],[.box [pI n0],.box [pI (0:Int)]],s)):=by refine(evE (fn:=Tryz.f112) (by kernel_rfl)).trans ?_;generalize evC (JR L) d=Y;unfold Ao6;kernel_rfl
noncomputable def AI(L:Nat):Cfg:=D1 L [131] (A5 []) [] (A5 [(2,[2]),(1,[0,0]),(0,[0,0])]) [] (A5 []) (some [2]) [] [] []
noncomputable def QS{R:Type}(L:Nat)(k b:Int)(d:Int->Int->Int->Option R):Option R:=vl (A2 ((A2 (k+36))-b)) λa=>vl (if ((26:Int)<(if ((1:Int) > a) then (1:Int) else a)) then (26:Int) else (if ((1:Int) > a) then (1:Int) else a)) λc=>d c (A2 (k+36)) b
theorem XN(d:Nat)(k b):evC (AI L) (d+1) W Q 131 [.ptr 0 0 0,.ptr 1 0 0] [.box [pI k],.box [pI b]] s=QS L k b (λe a c=>some (pI e,[.box [pI a],.box [pI c]],s)):=by refine(evE (fn:=Tryz.f131) (by kernel_rfl)).trans ?_;generalize evC (AI L) d=Y;unfold QS;kernel_rfl
noncomputable abbrev Am3:Code:=F6 ak3
noncomputable def Nr(L:Nat):Cfg:=D1 L [96] (A5 [(2,[0,0,4,0])]) [(112,Rk),(113,IU)] (A5 [(6,[0,0,5]),(5,[0,0,5,0]),(4,[6]),(3,[0,0,5,0,6]),(2,[0,0,5,0]),(1,[0,0,5]),(0,[0,0,0])]) [113] (A5 [(0,[6]),(1,[0,0,5])]) (some [6]) [(131,Ho)] [] [131]
noncomputable def Cp{R:Type}(L n:Nat)(f:Int)(p:Bool)(g:LL)(a b:Int)(o:Bool->LL->Int->Int->Option R):Option R:=match n with|0=>none|n+1=>cond (ltN b 1000000000000) (cond (ltN a 1000000) (cond (ltI f (G9 b a)) (cond (ltN f 36) (vl (↑(ab4 (Q5 (a8 f))):Int) λh=>cond (F8 (g.length+1)) (o p (g++[[(SV.int .u8 h)]]) a (x6 b (36:Int))) none) none) (vl (A2 (f-(G9 b a))) λi=>vl (A2 ((36:Int)-(G9 b a))) λc=>cond (c !=0) (vl (A2 ((G9 b a)+(o8 i c))) λd=>cond (ltN d 36) (vl (↑(ab4 (Q5 (a8 d))):Int) λj=>cond (F8 (g.length+1)) (vl (A2 (f-(G9 b a))) λl=>vl (A2 ((36:Int)-(G9 b a))) λe=>cond (e !=0) (vl (A2 (o9 l e)) λm=>Cp L n m p (g++[[(SV.int .u8 j)]]) a (x6 b (36:Int)) o) none) none) none) none)) none) none
theorem LZ(n q0 z1 l2 a n4):E2 3 ((Nr L).keep 2) (bd (Nr L) Y Q (cd [1,1,0,0] Am3)) n ⟨gp [(0,.fl 0),(0,pI q0),(5,.fnr (w9 131) [] [.ptr 2 0 0,.ptr 1 0 0])] 31,[.arr z1 5 1 l2,.box [pI a],.box [pI n4]],s⟩ k =
 Cp L n q0 z1 l2 a n4 (λe c d a=>k .ret ⟨gp [(6,.fl 0)] 32,[.arr e 5 1 c,.box [pI d],.box [pI a]],s⟩):=by
 induction n generalizing q0 z1 l2 a n4 with
 | zero=>rfl
 | succ n b=>rw[Cp];simp only[<-b];kernel_rfl
noncomputable def Ao5{R:Type}(L:Nat)(q b:Int)(z:Bool)(l:LL)(f:Bool->LL->Int->Int->Option R):Option R:=Cp L L q z l b 0 (λe a c d=>f e a c d)
theorem Ad5(d:Nat)(q b z l):evC (Nr L) (d+1) W Q 96 [.fl 0,pI q,pI b] [.arr z 5 1 l] s=Ao5 L q b z l (λf a c e=>some (.fl 0,[.arr f 5 1 a,.box [pI c],.box [pI e]],s)):=by refine(evE (fn:=ak3) (by kernel_rfl)).trans ?_;generalize evC (Nr L) d=Y;unfold Ao5;exact(b8 (by kernel_rfl) ((LZ L Y Q s (H4 0 (K6 (Nr L) ak3)) L q z l b 0).trans (by kernel_rfl)))
noncomputable abbrev Z7:Code:=F6 ah1
noncomputable def K4(L:Nat):Cfg:=D1 L [70] (A5 [(29,[0,1,0,0,2,0,0,0,0,61,0,0]),(21,[0,1,0,0,2,0,0,0,0,0,38,0,0]),(17,[0,1,0,0,2,0,0,0,0]),(5,[0,1,0,0,15,0,0])]) [(95,Ge),(97,Gd)] (A5 [(40,[2,0]),(18,[0,3,2,0,0,0,0]),(39,[0,3,2,0,0,0,0]),(38,[0,3,2,0,0,0,0,61,0,0]),(32,[0,3,2,0,0,0,0,61,0,0]),(37,[0,3,2,0,0,0,0,61,0,0]),(36,[0,3,2,0,0,0,0,61,0,0]),(35,[0,3,2,0,1,0,61,0,0]),(34,[0,3,2,0,0,1,61,0,0]),(33,[0,3,2,0,0,0,0,61,0,0,9]),(31,[0,3,2,0,0,0,0,4,56,0,0,3]),(30,[0,3,2,0,0,0,0,4,56,0,0]),(29,[0,3,2,0,0,0,0,61,0,0,0]),(28,[0,3,2,0,0,0,0,61,0,0]),(27,[0,3,2,0,0,0,0]),(26,[0,3,2,1,0,0,0]),(25,[0,3,2,0,0,0,0,0,38,0,0]),(24,[0,3,2,0,0,0,0,0,38,0,0]),(23,[0,3,2,0,0,0,0,0,1,36,0,0,5]),(22,[0,3,2,0,0,0,0,0,1,36,0,0]),(21,[0,3,2,0,0,0,0,0,38,0,0,0]),(20,[0,3,2,0,0,0,0,0,38,0,0]),(19,[0,3,2,0,0,0,0,0]),(17,[0,3,2,0,0,0,0,36]),(16,[0,3,2,0,0,0,0]),(15,[0,3,2,0,0,0]),(14,[0,3,2]),(13,[0,3,2,32]),(12,[0,3,2]),(11,[0,3,15,0,0]),(10,[0,3,15,0,0]),(9,[0,3,1,13,0,0,7]),(8,[2,0]),(7,[0,3,1,13,0,0,5]),(6,[0,3,1,13,0,0]),(5,[0,3,15,0,0,0]),(4,[0,3,15,0,0]),(3,[0,3]),(2,[2,0]),(1,[0,18]),(0,[0])]) [95,97] (A5 [(2,[4]),(3,[0,3,2,0,0,0,0]),(6,[0,3,2,0,0,0,0]),(7,[0,3,2,0,0,0,0,61,0,0]),(8,[0,3,2,0,0,0,0,61,0,0]),(4,[0,3,2,0,0,0,0,0]),(5,[0,3,2,0,0,0,0,0,38,0,0]),(0,[0,3]),(1,[0,3,15,0,0])]) (some [2,0]) [(96,Yx)] [] [96]
noncomputable def M8{R:Type}(L n:Nat)(c b:Bool)(a:LL)(i e:Int)(f:LL)(g:LL->Option R)(h:Bool->Bool->LL->LL->Option R):Option R:=match n with|0=>none|n+1=>cond (ltI e i) (cond (inR e a.length) (cond (okE Ed a (a8 e) 0) (vl (gE a (a8 e) 0) λd=>cond (not (ptI d)) (g f) (cond (ltI d 128) (cond (F8 (f.length+1)) (M8 L n c b a i (A2 (e+1)) (f++[[(SV.int .u8 (wu8 d))]]) g h) none) (M8 L n c b a i (A2 (e+1)) f g h))) none) none) (h c b a f)
theorem MH(n b a c n3 n4 l5):E2 1 ((K4 L).keep 5) (bd (K4 L) Y Q (cd [1,1,1,0,1,0,0] Z7)) n ⟨gp [(0,.s (.sl b a 1 c)),(3,.fl 0),(15,.s (.sl b a 1 c)),(0,pI n3),(0,pI n4)] 84,[.arr true 5 1 l5],s⟩ k =
 M8 L n b a c n3 n4 l5 (λe=>k .ret ⟨gp [(2,pS ([]:List UInt8)),(0,pI (2:Int))] 103,[.arr true 5 1 e],s⟩) (λb a c f=>k (.exit 0) ⟨gp [(0,.s (.sl b a 1 c)),(3,.fl 0)] 102,[.arr true 5 1 f],s⟩):=by
 induction n generalizing b a c n3 n4 l5 with
 | zero=>rfl
 | succ n d=>rw[M8];simp only[<-d];kernel_rfl
noncomputable def Cr{R:Type}(L n:Nat)(c b:Bool)(a:LL)(d o e f g m q h:Int)(i:LL)(p:Bool->Bool->LL->Int->Int->Int->Int->Int->Int->LL->Option R):Option R:=match n with|0=>none|n+1=>cond (ltI h q) (cond (inR h a.length) (cond (okE Ed a (a8 h) 0) (vl (gE a (a8 h) 0) λj=>cond (not (ltI j o)) (vl (if (j<m) then j else m) λl=>Cr L n c b a d o e f g l q (A2 (h+1)) i p) (Cr L n c b a d o e f g m q (A2 (h+1)) i p)) none) none) (p c b a d o e f g m i)
theorem MI(n b a c d i e f g h n9 n10 l11):E2 1 ((K4 L).keep 21) (bd (K4 L) Y Q (cd [1,1,1,1,1,1,1,0,1,0,0,1,0,0,1,0,1,0,0] Z7)) n ⟨gp [(0,.s (.sl b a 1 c)),(3,.fl 0),(2,pI d),(0,pI i),(0,pI e),(0,pI f),(0,pI g),(0,pI h),(38,.s (.sl b a 1 c)),(0,pI n9),(0,pI n10)] 53,[.arr true 5 1 l11],s⟩ k =
 Cr L n b a c d i e f g h n9 n10 l11 (λb a c d i e f g h l=>k (.exit 4) ⟨gp [(0,.s (.sl b a 1 c)),(3,.fl 0),(2,pI d),(0,pI i),(0,pI e),(0,pI f),(0,pI g),(0,pI h)] 94,[.arr true 5 1 l],s⟩):=by
 induction n generalizing b a c d i e f g h n9 n10 l11 with
 | zero=>rfl
 | succ n j=>rw[Cr];simp only[<-j];kernel_rfl
noncomputable def U7{R:Type}(L n:Nat)(d c:Bool)(a:LL)(e o b g f j m:Int)(h:LL)(u:Bool->Bool->LL->Int->Int->Int->Int->Int->LL->Option R):Option R:=match n with|0=>none|n+1=>cond (ltI m j) (cond (inR m a.length) (cond (okE Ed a (a8 m) 0) (vl (gE a (a8 m) 0) λl=>cond (ltI l o) (vl (A2 (b+1)) λq=>U7 L n d c a e o q g f j (A2 (m+1)) h u) (cond (l==o) (cond (ltN b 1152921504606846976) (cond (ltN g 1000000) (cond (j6 h.length 100000) (vl (af6 h (s7 E5 (J5 (a8 b) 0 (a8 g)))) λp=>vl (A2 (f+1)) λi=>cond (ltN b 1152921504606846976) (cond (ltN i 1000000) (cond (ltI 0 i) (vl (↑(K3 (a8 b) (a8 i) (f==e)):Int) λr=>vl (A2 (f+1)) λt=>U7 L n d c a e o 0 r t j (A2 (m+1)) p u) none) none) none) none) none) none) (U7 L n d c a e o b g f j (A2 (m+1)) h u))) none) none) (u d c a e o b g f h)
theorem MJ(n b a c d h e f g n8v n9 l10):E2 1 ((K4 L).keep 29) (bd (K4 L) Y Q (cd [1,1,1,1,1,1,1,0,1,0,0,1,0,0,1,1,1,1,0,1,0,0] Z7)) n ⟨gp [(0,.s (.sl b a 1 c)),(3,.fl 0),(2,pI d),(0,pI h),(0,pI e),(0,pI f),(0,pI g),(61,.s (.sl b a 1 c)),(0,pI n8v),(0,pI n9)] 31,[.arr true 5 1 l10],s⟩ k =
 U7 L n b a c d h e f g n8v n9 l10 (λb a c d h e f g j=>k (.exit 6) ⟨gp [(0,.s (.sl b a 1 c)),(3,.fl 0),(2,pI d),(0,pI h),(0,pI e),(0,pI f),(0,pI g)] 95,[.arr true 5 1 j],s⟩):=by
 induction n generalizing b a c d h e f g n8v n9 l10 with
 | zero=>rfl
 | succ n i=>rw[U7];simp only[<-i];kernel_rfl
noncomputable def Aj{R:Type}(L n:Nat)(j i:Bool)(b:LL)(v K w y u:Int)(J:LL)(I:LL->Option R):Option R:=match n with|0=>none|n+1=>cond (ltI u (b.length:Int)) (Cr L L j i b v K w y u 1114112 (b.length:Int) 0 J (λe c a l B o q g x z=>vl (A2 (g+1)) λC=>vl (A2 ((A2 (x-B))*C)) λD=>U7 L L e c a l x (A2 (o+D)) q g (a.length:Int) 0 z (λf d h m F p r t A=>vl (A2 (p+1)) λG=>vl (A2 (F+1)) λH=>Aj L n f d h m H G r t A I))) (I J)
theorem Ul(n points_z0 points_t1 points2 basic3 n4 delta5 bias6 done7 l8):E2 1 ((K4 L).keep 17) (bd (K4 L) Y Q (cd [1,1,1,1,1,1,1,0,1,0,0] Z7)) n ⟨gp [(0,.s (.sl points_z0 points_t1 1 points2)),(3,.fl 0),(2,pI basic3),(0,pI n4),(0,pI delta5),(0,pI bias6),(0,pI done7)] 95,[.arr true 5 1 l8],s⟩ k =
 Aj L n points_z0 points_t1 points2 basic3 n4 delta5 bias6 done7 l8 (λB=>k (.exit 2) ⟨gp [(4,.fl 0)] 102,[.arr true 5 1 B],s⟩):=by
 induction n generalizing points_z0 points_t1 points2 basic3 n4 delta5 bias6 done7 l8 with
 | zero=>rfl
 | succ n A=>rw[Aj];exact(b8 (by kernel_rfl) (A1 ((MI L Y Q s (H4 4 (I1 (K4 L) Y Q (cd [1,1,1,1,1,1,1,0,1,0,0,1,0,0,1,1] Z7) (H4 3 (I1 (K4 L) Y Q (cd [1,1,1,1,1,1,1,0,1,0,0,1,1] Z7) (lpK 1 ((K4 L).keep 17) (bd (K4 L) Y Q (cd [1,1,1,1,1,1,1,0,1,0,0] Z7)) n k))))) L points_z0 points_t1 points2 basic3 n4 delta5 bias6 done7 1114112 (points2.length:Int) 0 l8).trans (congr rfl (Ab6 λd b a g x i j m t q=>(b8 (by kernel_rfl) (A6 λy=>(A6 λu=>((MJ L Y Q s (H4 6 (I1 (K4 L) Y Q (cd [1,1,1,1,1,1,1,0,1,0,0,1,0,0,1,1,1,1,1] Z7) (H4 3 (I1 (K4 L) Y Q (cd [1,1,1,1,1,1,1,0,1,0,0,1,1] Z7) (lpK 1 ((K4 L).keep 17) (bd (K4 L) Y Q (cd [1,1,1,1,1,1,1,0,1,0,0] Z7)) n k))))) L d b a g t (A2 (i+u)) j m (a.length:Int) 0 q).trans (congr rfl (fx9 λe c f h z p l o r=>(b8 (by kernel_rfl) (A6 λv=>(A6 λw=>(A e c f h w v l o r))))))))))))) rfl))
noncomputable def FU{R:Type}(L:Nat)(l j:Bool)(p:LL)(m:Unit->Option R)(h:By->Int->LL->Option R):Option R:=cond (ltI 256 (p.length:Int)) (m ()) (M8 L L l j p (p.length:Int) 0 [] (λi=>h ([]:List UInt8) 2 i) (λb a c g=>vl (g.length:Int) λf=>cond (ltI 0 f) (cond (F8 (g.length+1)) (Aj L L b a c f 128 0 72 f (g++[[(SV.int .u8 (45:Int))]]) (λd=>cond (u0 d AZ) (h (s7 Vk d) 0 d) none)) none) (Aj L L b a c f 128 0 72 f g (λe=>cond (u0 e AZ) (h (s7 Vk e) 0 e) none))))
theorem Ae0(d:Nat)(p_z p_t p):evC (K4 L) (d+1) W Q 70 [.s (.sl p_z p_t 1 p)] [] s=FU L p_z p_t p (λ_=>some (.tup [pS ([]:List UInt8),pI (3:Int)],[],s)) (λi j h=>some (.tup [pS i,pI j],[.arr true 5 1 h],s)):=by refine(evE (fn:=ah1) (by kernel_rfl)).trans ?_;generalize evC (K4 L) d=Y;unfold FU;exact let g:=(H4 2 (I1 (K4 L) Y Q (cd [1,1,1,1,1,1,1,1] Z7) (K6 (K4 L) ah1)));(b8 (by kernel_rfl) (A1 rfl ((MH L Y Q s (H4 0 (I1 (K4 L) Y Q (cd [1,1,1,1] Z7) (K6 (K4 L) ah1))) L p_z p_t p (p.length:Int) 0 []).trans (congr (congr rfl (by kernel_rfl)) (fx4 λb a c f=>(b8 (by kernel_rfl) (A6 λe=>(A1 (A1 ((Ul L Y Q s g L b a c e 128 0 72 e (f++[[(SV.int .u8 (45:Int))]])).trans (by kernel_rfl)) rfl) ((Ul L Y Q s g L b a c e 128 0 72 e f).trans (by kernel_rfl))))))))))
end
theorem Mn(k b:Nat):G9 ((36*k:Nat):Int) (b:Int)=(thr k b:Int):=by unfold G9 thr;omega
theorem TN{R:Type}{a:Int->Option R}(b:Int):Ao6 LF b a=a b:=rfl
theorem ML{R:Type}{a:Int->Int->Int->Option R}(k b:Int)(e:ltN k 1000000000000=true)(f:ltN b 1000000=true):QS LF k b a=a (G9 k b) (x6 k 36) b:=by
 obtain⟨g,h⟩:=J7.1 e;obtain⟨i,j⟩:=J7.1 f;unfold QS;have c:A2 (k+36)=k+36:=A3;have d:A2 (k+36-b)=k+36-b:=A3;simp only[vl,c,d];have:(if (26:Int)<(if (1:Int) > k+36-b then (1:Int) else k+36-b) then (26:Int) else (if (1:Int) > k+36-b then (1:Int) else k+36-b))=G9 k b:=by
  unfold G9;omega
 grind
theorem Hu{q k b:Nat}(h:q<thr k b):J5 q k b=[Q5 q]:=by rw[J5,dif_pos h]
theorem Nw{q k b:Nat}(h:¬q<thr k b):J5 q k b=Q5 (thr k b+(q-thr k b) % (36-thr k b))::J5 ((q-thr k b) / (36-thr k b)) (k+1) b:=by rw[J5,dif_neg h]
theorem AQ{x y m:Nat}(a:10<=y)(h:x<10*m):x / y<m:=by have b:x / y<=x / 10:=Nat.div_le_div_left a (by omega);omega
theorem KN(b:Nat):∀(r q k:Nat),q<10 ^ r->(J5 q k b).length<=r+1:=by
 intro r
 induction r with
 | zero=>
  intro q k h;have c:=N6 k b;rw[Hu (by simp at h;omega)];simp
 | succ r d=>
  intro q k h;have c:=N6 k b;by_cases a:q<thr k b
  ·rw[Hu a];simp
  ·rw[Nw a,o5];have:=d ((q-thr k b) / (36-thr k b)) (k+1) (AQ (by omega) (by rw[ae2] at h;omega));omega
theorem TF(z:Bool)(b:Nat)(L:b<1000000):∀(r q k n:Nat) (l:LL),q<10 ^ r->q<1152921504606846976->k+r<=1000->r<n->l.length+r<=200000->
  ∃(d f:Int),∀(R:Type) (a:Bool->LL->Int->Int->Option R),Cp LF n (q:Int) z l (b:Int) ((36*k:Nat):Int) a=a z (l++(J5 q k b).map E5) d f:=by
 have c:∀(q k n:Nat) (l:LL),q<thr k b->k<=1000->l.length<=200000->∃(d f:Int),∀(R:Type) (a:Bool->LL->Int->Int->Option R),Cp LF (n+1) (q:Int) z l (b:Int) ((36*k:Nat):Int) a=a z (l++(J5 q k b).map E5) d f:=by
  intro q k n l g i j;have p:=N6 k b;refine⟨(b:Int),x6 ((36*k:Nat):Int) 36,λR a=>?_⟩;rw[Cp];rw[J8,J8,Mn,A8,J8,Hu g];simp only[vl,cond_true,a7];rw[E9 (by omega)];rfl
 intro r
 induction r with
 | zero=>
  intro q k n l h _ i H j;have p:=N6 k b;obtain⟨n,rfl⟩:∃m,n=m+1:=⟨n-1,by omega⟩
  exact c q k n l (by simp at h;omega) (by omega) (by omega)
 | succ r I=>
  intro q k n l h o i H j;have p:=N6 k b;obtain⟨n,rfl⟩:∃m,n=m+1:=⟨n-1,by omega⟩
  by_cases g:q<thr k b
  ·exact c q k n l g (by omega) (by omega)
  ·have D:(q-thr k b) / (36-thr k b)<10 ^ r:=AQ (by omega) (by rw[ae2] at h;omega);have F:(q-thr k b) / (36-thr k b)<=q:=ai4 (s8 _ _) (by omega);have G:(q-thr k b) % (36-thr k b)<36-thr k b:=aa8 _ (by omega);obtain⟨d,f,e⟩:=I ((q-thr k b) / (36-thr k b)) (k+1) n (l++[E5 (Q5 (thr k b+(q-thr k b) % (36-thr k b)))]) D (by omega) (by omega) (by omega) (by rw[j2,h9];omega);refine⟨d,f,λR a=>?_⟩;rw[Cp];have t:A2 ((q:Int)-(thr k b:Int))=((q-thr k b:Nat):Int):=by rw[A3];omega
   have u:A2 ((36:Int)-(thr k b:Int))=((36-thr k b:Nat):Int):=by rw[A3];omega
   have v:o8 ((q-thr k b:Nat):Int) ((36-thr k b:Nat):Int)=(((q-thr k b) % (36-thr k b):Nat):Int):=Ef _ _;have w:o9 ((q-thr k b:Nat):Int) ((36-thr k b:Nat):Int)=(((q-thr k b) / (36-thr k b):Nat):Int):=I6 _ _;have C:((((36-thr k b:Nat):Int))!=0)=true:=by rw[bne_iff_ne];omega
   rw[J8,J8,Mn,A4];simp only[vl,t,u,v,w,C,cond_true,cond_false];rw[Nw g];generalize J:(q-thr k b) / (36-thr k b)=A at *;generalize K:(q-thr k b) % (36-thr k b)=B at *;have x:A2 ((thr k b:Int)+(B:Int))=((thr k b+B:Nat):Int):=by rw[A3];rfl
   have y:A2 (A:Int)=(A:Int):=A3;rw[x,y,J8,E9 (by omega),a7,show x6 ((36*k:Nat):Int) 36=((36*(k+1):Nat):Int) from(by show((36*k:Nat):Int)+36=_;omega)];refine b8 (e R a) ?_;simp[w8]
theorem TG(q b:Int)(z:Bool)(l:LL)(h:ltN q 1152921504606846976=true)(i:ltN b 1000000=true)(j:j6 l.length 100000=true) :
  ∃(c d:Int),∀(R:Type) (a:Bool->LL->Int->Int->Option R),Ao5 LF q b z l a=a z (af6 l ((J5 q.toNat 0 b.toNat).map E5)) c d:=by
 obtain⟨f,m⟩:=J7.1 h;obtain⟨g,n⟩:=J7.1 i;obtain⟨q,rfl⟩:=o0 f;obtain⟨b,rfl⟩:=o0 g;have o:=y9 j;have k:=G7;obtain⟨c,d,e⟩:=TF z b (by omega) 19 q 0 LF l (by omega) (by omega) (by omega) (by omega) (by omega);exact⟨c,d,λR a=>e R _⟩
def R1(l:List Int):LL:=l.map λx=>[SV.int .i64 x]
def B4(l:List Nat):LL:=l.map λx:Nat=>[SV.int .i64 (x:Int)]
theorem Hz(l:List Nat):R1 (l.map λn:Nat=>(n:Int))=B4 l:=by simp[R1,B4,ab2]
theorem N1(l:List Int):(R1 l).length=l.length:=by simp[R1]
theorem C0(l:List Nat):(B4 l).length=l.length:=by simp[B4]
theorem Ll(a b:List Nat):B4 (a++b)=B4 a++B4 b:=by simp[B4]
theorem BJ{l:List Int}{i:Nat}(h:i<l.length):okE Ed (R1 l) i 0=true:=by unfold okE R1 Ed;simp[j7,h,okS,SV.has]
theorem KQ(l:List Int)(i:Nat)(h:i<l.length):gE (R1 l) i 0=l.getD i 0:=by unfold gE gC R1;simp[j7,s6 h,SV.gI]
theorem Ib{l:List Nat}{i:Nat}(h:i<l.length):okE Ed (B4 l) i 0=true:=by rw[<-Hz];exact BJ (by simpa using h)
theorem Ob(l:List Nat)(i:Nat)(h:i<l.length):gE (B4 l) i 0=(l.getD i 0:Int):=by rw[<-Hz,KQ _ _ (by simpa using h)];grind
theorem QG{l:LL}(h:l.all Lb=true):∃P:List Int,l=R1 P:=by
 induction l with
 | nil=>exact⟨[],rfl⟩
 | cons x r b=>
  simp only[s5,p9] at h;obtain⟨P,rfl⟩:=b h.2;have a:=h.1;unfold Lb at a;split at a
  ·rename_i n;exact⟨n::P,rfl⟩
  ·cases a
theorem EL(P:List Int):(R1 P).map elI=P:=by
 unfold R1;rw[ae1]
 conv=>rhs;rw[<-aj6 P]
 apply aa4;intro x _;simp[elI,SV.gI]
theorem EK(l:List Int)(i:Nat)(h:i<l.length):l.drop i=l.getD i 0::l.drop (i+1):=by simp_all
theorem Kt(l:List Nat)(i:Nat)(h:i<l.length):l.drop i=l.getD i 0::l.drop (i+1):=by simp_all
theorem ZW:∀(r d k:Nat),d<456*35 ^ r->Ni d k<=k+36*r+36:=by
 intro r
 induction r with
 | zero=>
  intro d k h;rw[Jg (by simp at h;omega)];have:36*d / (d+38)<=36:=by
   apply Nat.div_le_of_le_mul;omega
  omega
 | succ r b=>
  intro d k h;by_cases a:455<d
  ·rw[Ry a];grind
  grind
theorem Gh(d c:Nat)(f:Bool)(h:d<1152921504606846976):K3 d c f<=500:=by
 unfold K3;have a:∀x:Nat,x<=d->Ni (x+x / c) 0<=500:=by
  intro x a;have:=s8 x c;have:=ZW 11 (x+x / c) 0 (by omega);omega
 grind
theorem Wu{q k b:Nat}(h:q<1152921504606846976):(J5 q k b).length<=20:=KN b 19 q k (by omega)
theorem Ae1(z t:Bool)(c:List Nat)(a m:Nat)(Q:m<=1114112)(P:c.length<=256):∀(r i n:Nat) (s:DA),i+r=c.length->r<n->s.delta+r<=1000000000000->s.bias<=500->s.out.length+20*r<=90000->s.done+r<=1000->a<=256->
  (∀(R:Type) (d:Bool->Bool->LL->Int->Int->Int->Int->Int->LL->Option R),U7 LF n z t (B4 c) (a:Int) (m:Int) (s.delta:Int) (s.bias:Int) (s.done:Int) (c.length:Int) (i:Int) (s.out.map E5) d =
   d z t (B4 c) (a:Int) (m:Int) ((E6 m a (c.drop i) s).delta:Int) ((E6 m a (c.drop i) s).bias:Int) ((E6 m a (c.drop i) s).done:Int) ((E6 m a (c.drop i) s).out.map E5))/\
  (E6 m a (c.drop i) s).bias<=500/\(E6 m a (c.drop i) s).out.length<=s.out.length+20*(c.drop i).countP (· == m)/\(E6 m a (c.drop i) s).done=s.done+(c.drop i).countP (· == m)/\
  (E6 m a (c.drop i) s).delta<=(if 0<(c.drop i).countP (· == m) then r else s.delta+r):=by
 intro r
 induction r with
 | zero=>
  intro i n s N O K x L M y;obtain⟨n,rfl⟩:∃m,n=m+1:=⟨n-1,by omega⟩
  rw[b7 (by omega)];refine⟨λR d=>?_,x,by simp[E6],by simp[E6],by simp[E6]⟩;rw[U7];rw[A4];rfl
 | succ r F=>
  intro i n s N O K x L M y;obtain⟨n,rfl⟩:∃m,n=m+1:=⟨n-1,by omega⟩
  rw[Kt c i (by omega)];have C:=Ob c i (by omega);have ok:=Ib (l:=c) (i:=i) (by omega);generalize c.getD i 0=p at *;have A:A2 ((i:Int)+1)=((i+1:Nat):Int):=by rw[A3];rfl
  have I:A2 ((s.delta:Int)+1)=((s.delta+1:Nat):Int):=by rw[A3];rfl
  have J:A2 ((s.done:Int)+1)=((s.done+1:Nat):Int):=by rw[A3];rfl
  by_cases D:p<m
  ·have e:(p==m)=false:=by rw[beq_eq_false_iff_ne];omega
   have j:E6 m a (p::c.drop (i+1)) s=E6 m a (c.drop (i+1)) { s with delta:=s.delta+1 }:=by rw[E6,if_pos D]
   obtain⟨o,u,v,w,f⟩:=F (i+1) n { s with delta:=s.delta+1 } (by omega) (by omega) (by simp only;omega) x (by simp only;omega) (by simp only;omega) y;rw[j,u5 (by rw[e];simp)];refine⟨λR d=>?_,u,v,w,?_⟩
   ·rw[U7];rw[A8,C0,K7,a7,ok];simp only[cond_true,vl,C,A,I];rw[A8,cond_true];exact o R d
   ·simp only at f;split at f<;>split<;>omega
  ·by_cases H:p=m
   ·subst H;have G:=Wu (q:=s.delta) (k:=0) (b:=s.bias) (by omega);have B:=Gh s.delta (s.done+1) (s.done==a) (by omega);have j:E6 p a (p::c.drop (i+1)) s=E6 p a (c.drop (i+1)) { delta:=0,bias:=K3 s.delta (s.done+1) (s.done==a),done:=s.done+1,out:=s.out++J5 s.delta 0 s.bias }:=by rw[E6,if_neg D,if_pos rfl]
    obtain⟨o,u,v,w,f⟩:=F (i+1) n { delta:=0,bias:=K3 s.delta (s.done+1) (s.done==a),done:=s.done+1,out:=s.out++J5 s.delta 0 s.bias } (by omega) (by omega) (by simp only;omega) B (by simp only[j2];omega) (by simp only;omega) y;rw[j,ab6 (by simp)];refine⟨λR d=>?_,u,?_,?_,?_⟩
    ·rw[U7];have g:((s.done:Int)==(a:Int))=(s.done==a):=by grind
     rw[A8,C0,K7,a7,ok];simp only[cond_true,vl,C,A,J];rw[A4,cond_false,beq_self_eq_true,cond_true,J8,J8,j3,w6 (show s.out.length<=100000 by omega),J8,A8,g];simp only[cond_true,a7];have h:af6 (s.out.map E5) ((J5 s.delta 0 s.bias).map E5)=(s.out++J5 s.delta 0 s.bias).map E5:=by rw[x7];rfl
     rw[h];exact o R d
    ·simp only[j2] at v;omega
    ·simp only at w;omega
    ·simp only at f;rw[Th];split at f<;>omega
   ·have e:(p==m)=false:=by rw[beq_eq_false_iff_ne];omega
    have j:E6 m a (p::c.drop (i+1)) s=E6 m a (c.drop (i+1)) s:=by rw[E6,if_neg D,if_neg H]
    obtain⟨o,u,v,w,f⟩:=F (i+1) n s (by omega) (by omega) (by omega) x (by omega) (by omega) y;rw[j,u5 (by rw[e];simp)];refine⟨λR d=>?_,u,v,w,?_⟩
    ·rw[U7];rw[A8,C0,K7,a7,ok];simp only[cond_true,vl,C,A];rw[A4,cond_false,show((p:Int)==(m:Int))=false by rw[beq_eq_false_iff_ne];omega,cond_false];exact o R d
    ·split at f<;>split<;>omega
theorem MK{R:Type}{k0:Bool->Bool->LL->Int->Int->Int->Int->Int->Int->LL->Option R}(z t:Bool)(a:List Nat)(k:a.length<=256)(n0:Nat)(b delta c done:Int)(l:LL):∀(r i n m:Nat),i+r=a.length->r<n->
  Cr LF n z t (B4 a) b (n0:Int) delta c done (m:Int) (a.length:Int) (i:Int) l k0=k0 z t (B4 a) b (n0:Int) delta c done ((F7 n0 (a.drop i) m:Nat):Int) l:=by
 intro r
 induction r with
 | zero=>
  intro i n m g j;obtain⟨n,rfl⟩:∃m,n=m+1:=⟨n-1,by omega⟩
  rw[Cr];rw[A4,b7 (by omega)];rfl
 | succ r d=>
  intro i n m g j;obtain⟨n,rfl⟩:∃m,n=m+1:=⟨n-1,by omega⟩
  have f:=Ob a i (by omega);have ok:=Ib (l:=a) (i:=i) (by omega);rw[Cr,Kt a i (by omega)];generalize a.getD i 0=p at *;have e:A2 ((i:Int)+1)=((i+1:Nat):Int):=by rw[A3];rfl
  rw[A8,C0,K7,a7,ok];simp only[cond_true,vl,f,e,F7];by_cases h:n0<=p
  ·rw[if_pos h,A4,j1,cond_true];have:(if (p:Int)<(m:Int) then (p:Int) else (m:Int))=((min m p:Nat):Int):=by split<;>omega
   rw[this];exact d (i+1) n (min m p) (by omega) (by omega)
  ·rw[if_neg h,A8,j5,cond_false];exact d (i+1) n m (by omega) (by omega)
theorem Cn(n:Nat):∀(l:List Nat) (m:Nat),(F7 n l m=m\/(F7 n l m∈l/\n<=F7 n l m))/\F7 n l m<=m/\∀p∈l,n<=p->F7 n l m<=p
 | [],m=>⟨.inl rfl,y5 _,λp h=>by cases h⟩
 | q::r,m=>by
  obtain⟨a,b,c⟩:=Cn n r (if n<=q then min m q else m);simp only[F7];grind
theorem Ss{n m:Nat}(a:n<=m):∀l:List Nat,(∀p∈l,n<=p->m<=p)->l.countP (λp=>decide (p<m+1))=l.countP (λp=>decide (p<n))+l.countP (· == m)
 | [],_=>rfl
 | p::l,h=>by
  have d:=Ss a l (λq b=>h q (List.mem_cons_of_mem _ b));have c:=h p List.mem_cons_self;grind
theorem WC{n:Nat}{l:List Nat}(h:l.countP (λp=>decide (p<n))<l.length):∃p∈l,n<=p:=by
 apply ab0;intro a;have:l.countP (λp=>decide (p<n))=l.length:=by simp_all
 omega
theorem XM(z t:Bool)(a:List Nat)(b:Nat)(x:a.length<=256)(N:b<=256)(g:∀p∈a,p<=1114111):∀(f n d:Nat) (s:DA),s.done=a.countP (λp=>decide (p<n))->a.length<=s.done+f->f<d->s.delta<=300->s.bias<=500->s.out.length+20*(a.length-s.done)<=80000->n<=1114112->
  ∀(R:Type) (k0:LL->Option R),Aj LF d z t (B4 a) (b:Int) (n:Int) (s.delta:Int) (s.bias:Int) (s.done:Int) (s.out.map E5) k0=k0 ((Q3 a b f n s).out.map E5):=by
 intro f;have M:=G7
 induction f with
 | zero=>
  intro n d s P S T I v J L R k0;obtain⟨d,rfl⟩:∃m,d=m+1:=⟨d-1,by omega⟩
  rw[Aj];rw[C0,A4];rfl
 | succ f U=>
  intro n d s P S T I v J L R k0;obtain⟨d,rfl⟩:∃m,d=m+1:=⟨d-1,by omega⟩
  rw[Aj];rw[C0];have O:a.countP (λp=>decide (p<n))<=a.length:=p7;by_cases j:s.done<a.length
  ·obtain⟨A,k,q⟩:=WC (n:=n) (l:=a) (by omega);obtain⟨g1,g2,u⟩:=Cn n a 1114112;have g4:=u A k q;have g5:=g A k;have e:F7 n a 1114112∈a/\n<=F7 n a 1114112:=by grind
   have Q:Q3 a b (f+1) n s=Q3 a b f (F7 n a 1114112+1) { E6 (F7 n a 1114112) b a { s with delta:=s.delta+(F7 n a 1114112-n)*(s.done+1) } with delta:=(E6 (F7 n a 1114112) b a { s with delta:=s.delta+(F7 n a 1114112-n)*(s.done+1) }).delta+1 }:=by
    rw[Q3,if_pos j]
   rw[Q,A8,cond_true];have c:=λ(K:Bool->Bool->LL->Int->Int->Int->Int->Int->Int->LL->Option R)=>MK (k0:=K) z t a x n (b:Int) (s.delta:Int) (s.bias:Int) (s.done:Int) (s.out.map E5) a.length 0 LF 1114112 (by omega) (by omega)
   rw[k9] at c;refine b8 (c _) ?_;generalize F7 n a 1114112=m at *;have y:(m-n)*(s.done+1)<=1114112*256:=ag7 (by omega) (by omega);have B:A2 ((s.done:Int)+1)=((s.done+1:Nat):Int):=by rw[A3];rfl
   have C:A2 ((m:Int)-(n:Int))=((m-n:Nat):Int):=by rw[A3];omega
   have D:A2 (((m-n:Nat):Int)*((s.done+1:Nat):Int))=(((m-n)*(s.done+1):Nat):Int):=by
    rw[<-ag1];exact A3
   have F:A2 ((s.delta:Int)+(((m-n)*(s.done+1):Nat):Int))=((s.delta+(m-n)*(s.done+1):Nat):Int):=by
    rw[A3];rfl
   simp only[vl,B,C,D,F];have i:=Ae1 z t a b m (by omega) x a.length 0 LF { s with delta:=s.delta+(m-n)*(s.done+1) } (by omega) (by omega) (by simp only;omega) v (by simp only;omega) (by simp only;omega) N;rw[k9] at i;obtain⟨V,W,X,Y,Z⟩:=i;rw[C0];refine b8 (V R _) ?_;have h:0<a.countP (· == m):=ad5.2 ⟨m,e.1,by simp⟩;rw[if_pos h] at Z;have r:=Ss e.2 a u;generalize E6 m b a { s with delta:=s.delta+(m-n)*(s.done+1) } = o at *;simp only at X Y;have G:A2 ((o.delta:Int)+1)=((o.delta+1:Nat):Int):=by rw[A3];rfl
   have H:A2 ((m:Int)+1)=((m+1:Nat):Int):=by rw[A3];rfl
   have w:a.countP (λp=>decide (p<m+1))<=a.length:=p7;simp only[G,H];exact U (m+1) d { o with delta:=o.delta+1 } (by simp only;omega) (by simp only;omega) (by omega) (by simp only;omega) W (by simp only;omega) (by omega) R k0
  ·rw[A4];rw[Q3,if_neg j];rfl
def N7(l:List Int):By:=(l.filter λx=>decide (x<128)).map λx=>s9 x.toNat
theorem YX(x:Int)(a:0<=x)(h:x<128):[SV.int .u8 (wu8 x)]=E5 (s9 x.toNat):=by
 unfold E5;have e:wu8 x=x:=by unfold wu8;exact Int.emod_eq_of_lt a (show x<256 by omega)
 rw[e];have:((s9 x.toNat).toNat:Int)=x:=by simp;omega
 rw[this]
theorem Jv{x:Int}(h:ptI x=true):0<=x/\x<=1114111:=by
 cases x with
 | negSucc m=>cases h
 | ofNat m=>
  have:Bq m=true:=h;unfold Bq at this;simp only[p9,j9] at this;grind
theorem MF(z t:Bool)(P:List Int)(A:P.length<=256):∀(r i n:Nat) (out:By),i+r=P.length->r<n->out.length+r<=1000->
  ((P.drop i).all ptI=true->∀(R:Type) (a:LL->Option R) (b:Bool->Bool->LL->LL->Option R),M8 LF n z t (R1 P) (P.length:Int) (i:Int) (out.map E5) a b=b z t (R1 P) ((out++N7 (P.drop i)).map E5))/\
  ((P.drop i).all ptI=false->∃l,∀(R:Type) (a:LL->Option R) (b:Bool->Bool->LL->LL->Option R),M8 LF n z t (R1 P) (P.length:Int) (i:Int) (out.map E5) a b=a l):=by
 intro r
 induction r with
 | zero=>
  intro i n out u v w;obtain⟨n,rfl⟩:∃m,n=m+1:=⟨n-1,by omega⟩
  rw[b7 (by omega)];refine⟨λ_ R a b=>?_,λh=>(by cases h)⟩;rw[M8];rw[A4];simp[N7]
 | succ r q=>
  intro i n out u v w;obtain⟨n,rfl⟩:∃m,n=m+1:=⟨n-1,by omega⟩
  have j:=KQ P i (by omega);have ok:=BJ (l:=P) (i:=i) (by omega);rw[EK P i (by omega)];generalize P.getD i 0=x at *;have p:A2 ((i:Int)+1)=((i+1:Nat):Int):=by rw[A3];rfl
  cases f:ptI x with
  | false=>
   refine⟨λh=>?_,λ_=>⟨out.map E5,λR a b=>?_⟩⟩
   ·rw[s5,f] at h;cases h
   ·rw[M8];rw[A8,N1,K7,a7,ok];simp only[cond_true,vl,j,f,j1]
  | true=>
   obtain⟨y,B⟩:=Jv f;rw[s5,f,r9];by_cases c:x<128
   ·have d:N7 (x::P.drop (i+1))=s9 x.toNat::N7 (P.drop (i+1)):=by
     unfold N7;rw[ab8 (by simpa using c)];rfl
    have g:out.map E5++[[SV.int .u8 (wu8 x)]]=(out++[s9 x.toNat]).map E5:=by rw[YX x y c];simp
    obtain⟨k,o⟩:=q (i+1) n (out++[s9 x.toNat]) (by omega) (by omega) (by simp;omega);have step:∀(R:Type) (a:LL->Option R) (b:Bool->Bool->LL->LL->Option R),M8 LF (n+1) z t (R1 P) (P.length:Int) (i:Int) (out.map E5) a b=M8 LF n z t (R1 P) (P.length:Int) ((i+1:Nat):Int) ((out++[s9 x.toNat]).map E5) a b:=by
     intro R a b;rw[M8];rw[A8,N1,K7,a7,ok];simp only[cond_true,vl,j,f,j5,cond_false,p];rw[C6 c,j3,E9 (by omega),g];rfl
    refine⟨λh R a b=>?_,λh=>?_⟩
    ·rw[step,k h,d];simp
    ·obtain⟨l,e⟩:=o h;exact⟨l,λR a b=>by rw[step];exact e R a b⟩
   ·have d:N7 (x::P.drop (i+1))=N7 (P.drop (i+1)):=by
     unfold N7;rw[ab7 (by simpa using c)]
    obtain⟨k,o⟩:=q (i+1) n out (by omega) (by omega) (by omega);have step:∀(R:Type) (a:LL->Option R) (b:Bool->Bool->LL->LL->Option R),M8 LF (n+1) z t (R1 P) (P.length:Int) (i:Int) (out.map E5) a b=M8 LF n z t (R1 P) (P.length:Int) ((i+1:Nat):Int) (out.map E5) a b:=by
     intro R a b;rw[M8];rw[A8,N1,K7,a7,ok];simp only[cond_true,vl,j,f,j5,cond_false,p];rw[A4];rfl
    refine⟨λh R a b=>?_,λh=>?_⟩
    ·rw[step,k h,d]
    ·obtain⟨l,e⟩:=o h;exact⟨l,λR a b=>by rw[step];exact e R a b⟩
theorem QT{P:List Int}(h:P.all ptI=true):∃a:List Nat,P=a.map (λn:Nat=>(n:Int))/\a.all Bq=true/\∀p∈a,p<=1114111:=by
 induction P with
 | nil=>exact⟨[],rfl,rfl,by simp⟩
 | cons x P c=>
  rw[s5,p9] at h;obtain⟨a,rfl,b,e⟩:=c h.2;obtain⟨d,f⟩:=Jv h.1;obtain⟨m,rfl⟩:=o0 d;refine⟨m::a,rfl,?_,?_⟩
  ·rw[s5,b,v7];exact h.1
  grind
theorem Sf(a:List Nat):N7 (a.map λn:Nat=>(n:Int))=E4 a:=by
 unfold N7 E4
 induction a with
 | nil=>rfl
 | cons p r b=>
  grind
theorem Se(a:List Nat):(E4 a).length=a.countP (λp=>decide (p<128)):=by unfold E4;grind
theorem MG(z t:Bool)(P:List Int):(V6 P=([],3)/\∀(R:Type) (b:Unit->Option R) (f:By->Int->LL->Option R),FU LF z t (R1 P) b f=b ())\/
  (∃l,∀(R:Type) (b:Unit->Option R) (f:By->Int->LL->Option R),FU LF z t (R1 P) b f=f (V6 P).1 ((V6 P).2:Nat) l):=by
 have x:=G7;by_cases j:256<P.length
 ·refine .inl ⟨by unfold V6;rw[if_pos j],λR b f=>?_⟩;unfold FU;rw[N1,A8];rfl
 ·right
  obtain⟨v,w⟩:=MF z t P (by omega) P.length 0 LF [] (by omega) (by omega) (by simp;omega);rw[k9] at v w;cases g:P.all ptI with
  | false=>
   obtain⟨l,e⟩:=w g;refine⟨l,λR b f=>?_⟩;unfold FU;rw[N1,A4,cond_false];refine b8 (e R _ _) ?_;unfold V6;rw[if_neg j,g];rfl
  | true=>
   obtain⟨a,rfl,A,q⟩:=QT g;rw[j3] at j;have m:V6 (a.map λn:Nat=>(n:Int))=Im a:=by
    unfold V6;rw[j3,if_neg j,g];simp[ab2]
   have k:=Se a;have y:a.countP (λp=>decide (p<128))<=a.length:=p7;have main:∀(o:By),o.length<=300->∀(R:Type) (b:LL->Option R),Aj LF LF z t (B4 a) ((E4 a).length:Int) 128 0 72 ((E4 a).length:Int) (o.map E5) b=b ((Q3 a (E4 a).length 256 128 { delta:=0,bias:=72,done:=(E4 a).length,out:=o }).out.map E5):=by
    intro o B R b;exact XM z t a (E4 a).length (by omega) (by omega) q 256 128 LF { delta:=0,bias:=72,done:=(E4 a).length,out:=o } k (by simp only;omega) (by omega) (by simp) (by simp) (by simp only;omega) (by omega) R b
   have d:Im a=((Q3 a (E4 a).length 256 128 { delta:=0,bias:=72,done:=(E4 a).length,out:=if (E4 a).isEmpty then [] else E4 a++[45] }).out,0):=by
    unfold Im;grind
   refine⟨(Im a).1.map E5,λR b f=>?_⟩;unfold FU;rw[N1,j3,A4,cond_false,m];have i:=v g R;rw[j3] at i;refine b8 (i _ _) ?_;rw[u9,Sf,Hz];simp only[vl,j3];by_cases c:E4 a=[]
   ·rw[c,u3,A4,cond_false];have r:=main [] (by simp) R;rw[c,u3] at r;rw[ac3] at r;refine b8 (r _) ?_;rw[c] at d;rw[d];simp only[af1,if_true,u3];rw[Kh,Lg];rfl
   ·have u:0<(E4 a).length:=x4.2 c;rw[A8,cond_true,E9 (by omega),cond_true];have h:(E4 a).map E5++[[SV.int .u8 (45:Int)]]=(E4 a++[45]).map E5:=by rw[x7];rfl
    rw[h];refine b8 (main (E4 a++[45]) (by simp;omega) R _) ?_;rw[d,if_neg (by simpa using c)];rw[Kh,Lg];rfl
theorem Ae2(z t:Bool)(p:LL)(b:p.all Lb=true):∃r H,FU LF z t p (λ_=>rv (.tup [.s (.str []),.s (.int .i64 3)]) []) (λd e l=>rv (.tup [.s (.str d),.s (.int .i64 e)]) [.arr true 5 1 l])=rv r H/\
  r.stab [0,0] H = .tup [.s (.str (V6 (p.map elI)).1),.s (.int .i64 ((V6 (p.map elI)).2:Nat))]:=by
 obtain⟨P,rfl⟩:=QG b;rw[EL];rcases MG z t P with⟨c,a⟩|⟨l,a⟩
 ·exact⟨_,_,a _ _ _,by rw[c];rfl⟩
 ·exact⟨_,_,a _ _ _,rfl⟩
section
variable {W R : Type} (L : Nat) (Y : C9) (Q : Yh W) (s : W) (k : Out -> St W -> Option R)
noncomputable abbrev Am2:Code:=F6 ai1
noncomputable def Np(L:Nat):Cfg:=D1 L [110] (A5 [(3,[0,1,0,0])]) [(112,Rk),(128,IV)] (A5 [(17,[2]),(16,[0,2,0,53]),(15,[0,2,0]),(14,[2]),(13,[0,2,0,1,45]),(12,[0,2,0,0,0]),(11,[2]),(10,[0,2,0,0,41]),(9,[0,2,0,0]),(8,[0,2,0,0]),(7,[2]),(6,[0,2,0,0,18]),(5,[0,2,0,0]),(4,[2]),(3,[0,2,0,11]),(2,[0,2,0]),(1,[0,2]),(0,[0])]) [128] (A5 [(0,[2]),(1,[0,2,0])]) (some [2]) [(131,Ho)] [] [131]
noncomputable def Ag{R:Type}(L n:Nat)(p:Int)(c:By)(j o d:Int)(g l:Bool)(i:LL)(a:Int)(h:Int->By->Int->Int->Int->Bool->Bool->LL->Int->Option R):Option R:=match n with|0=>none|n+1=>cond (c==[]) (h 4 c j o d g l i a) (cond (inR 0 c.length) (cond (inR (bAt c (0:Int)) 256) (vl (C2 (u8n (bAt c (0:Int)))) λf=>cond (ltI f 0) (h 4 c j o d g l i a) (cond (O2 1 (c.length:Int) c.length) (vl (cut c 1 (c.length:Int)) λe=>vl (A2 (o+(A2 (f*p)))) λb=>cond (ltI 1099511627776 b) (h 19 e j b d g l i a) (cond (ltN a 1000000000000) (cond (ltN d 1000000) (cond (ltI f (G9 a d)) (h 0 e j b d g l i (x6 a (36:Int))) (vl (A2 ((36:Int)-(G9 a d))) λm=>cond (ltI 1099511627776 (A2 (p*m))) (h 19 e j b d g l i (x6 a (36:Int))) (Ag L n (A2 (p*m)) e j b d g l i (x6 a (36:Int)) h))) none) none)) none)) none) none)
theorem KK(n w0 g e f b c h d a):E2 4 ((Np L).keep 3) (bd (Np L) Y Q (cd [1,1,1,0,0] Am2)) n ⟨gp [(0,.ptr 0 0 0),(2,.fnr (w9 131) [] [.ptr 3 0 0,.ptr 2 0 0]),(0,pI w0)] 54,[.box [pS g,.fl 1,pI e,pI f,pI b,pB c],.arr h 3 1 d,.box [pI b],.box [pI a]],s⟩ k =
 Ag L n w0 g e f b c h d a (λn0 g e f b c h d a=>k .ret ⟨gp [(2,pI n0)] 56,[.box [pS g,.fl 1,pI e,pI f,pI b,pB c],.arr h 3 1 d,.box [pI b],.box [pI a]],s⟩):=by
 induction n generalizing w0 g e f b c h d a with
 | zero=>rfl
 | succ n i=>rw[Ag];simp only[<-i];kernel_rfl
noncomputable def Am9{R:Type}(L:Nat)(g:By)(n i b:Int)(q z:Bool)(l:LL)(p:Int->By->Int->Int->Int->Bool->Bool->LL->Int->Option R):Option R:=Ag L L 1 g n i b q z l 0 (λj o m d e a h c f=>p j o m d e a h c f)
theorem Aa9(d:Nat)(rest n i b st z l):evC (Np L) (d+1) W Q 110 [.ptr 0 0 0] [.box [pS rest,.fl 1,pI n,pI i,pI b,pB st],.arr z 3 1 l] s=Am9 L rest n i b st z l (λj m g h c e o f a=>some (pI j,[.box [pS m,.fl 1,pI g,pI h,pI c,pB e],.arr o 3 1 f,.box [pI c],.box [pI a]],s)):=by refine(evE (fn:=ai1) (by kernel_rfl)).trans ?_;generalize evC (Np L) d=Y;unfold Am9;exact(b8 (by kernel_rfl) ((KK L Y Q s (H4 0 (K6 (Np L) ai1)) L 1 rest n i b st z l 0).trans (by kernel_rfl)))
noncomputable def AD(L:Nat):Cfg:=D1 L [94] (A5 []) [(97,Gd),(95,Ge)] (A5 [(16,[2]),(15,[]),(14,[0]),(13,[2]),(12,[0,67]),(11,[2]),(10,[0,4,60]),(9,[0,4]),(8,[0,4]),(7,[0,4]),(6,[0,4]),(5,[0,2,1]),(4,[2]),(3,[0,2,0,8]),(2,[0,2,0]),(1,[0,2]),(0,[0])]) [97,95] (A5 []) (some [2]) [(110,Yr),(111,Zo)] [] [110,111]
noncomputable def QC{R:Type}(L:Nat)(a:By)(n i b:Int)(m z:Bool)(l:LL)(j:Int->By->Int->Int->Int->Bool->Bool->LL->Option R):Option R:=cond (A7 a.length) (cond (ltN b 1000000) (cond (ltN i 1099511627777) (cond ((Uc b a i)!=0) (j (Uc b a i) (Ud b a i) n (Js b a i) b m z l) (vl (A2 ((l.length:Int)+1)) λc=>vl (A2 ((Js b a i)-i)) λh=>cond (ltN h 1152921504606846976) (cond (ltN c 1000000) (cond (ltI 0 c) (vl (↑(K3 (a8 h) (a8 c) (not m)):Int) λf=>cond (c !=0) (vl (A2 (o9 (Js b a i) c)) λd=>cond (c !=0) (vl (o8 (Js b a i) c) λe=>cond (not (ptI (A2 (n+d)))) (j 2 (Ud b a i) (A2 (n+d)) e f true z l) (cond (ltI 256 c) (j 3 (Ud b a i) (A2 (n+d)) e f true z l) (cond (ltN e (Nat.add l.length 1)) (cond (j6 l.length 100000) (vl (Ex l (a8 e) (A2 (n+d))) λg=>j 0 (Ud b a i) (A2 (n+d)) (A2 (e+1)) f true z g) none) none))) none) none) none) none) none)) none) none) none
theorem WJ(d:Nat)(rest n i b st z l):evC (AD L) (d+1) W Q 94 [.ptr 0 0 0] [.box [pS rest,.fl 1,pI n,pI i,pI b,pB st],.arr z 3 1 l] s=QC L rest n i b st z l (λh j e f g a m c=>some (pI h,[.box [pS j,.fl 1,pI e,pI f,pI g,pB a],.arr m 3 1 c],s)):=by refine(evE (fn:=Tryz.f94) (by kernel_rfl)).trans ?_;generalize evC (AD L) d=Y;unfold QC;kernel_rfl
noncomputable abbrev Ji:Code:=F6 ae5
noncomputable def Q2(L:Nat):Cfg:=D1 L [69] (A5 [(20,[2,0,1]),(13,[0,1,0,1,0,22,0]),(4,[0,1,0,9,0])]) [(31,Ei)] (A5 [(24,[2,0]),(23,[2,0]),(22,[5,2,59]),(21,[5,2]),(20,[5,58]),(19,[2,0]),(18,[5,53]),(17,[5]),(16,[0,4,0,22,0]),(15,[0,4,0,22,0]),(14,[0,4,0,0,21,0]),(13,[0,4,0,22,0,0]),(12,[0,4,0,22,0]),(11,[0,4,0,21]),(10,[0,4,0]),(9,[0,4]),(8,[0,12,0]),(7,[2,0]),(6,[0,12,0,5]),(5,[0,3,8,0]),(4,[0,12,0,0]),(3,[0,12,0]),(2,[2,0]),(1,[0,10]),(0,[0])]) [31] (A5 [(4,[5]),(5,[5]),(2,[0,4,0]),(3,[0,4,0,22,0]),(0,[0]),(1,[0,12,0])]) (some [2,0]) [(94,Ql)] [] [94] (nt:=[(115,1,3,1)])
noncomputable def Fd{R:Type}(L n:Nat)(b:By)(e a:Int)(c:Unit->Option R)(d:By->Option R):Option R:=match n with|0=>none|n+1=>cond (ltI a e) (cond (inR a b.length) (cond (not (ltI (bAt b a) (128:Int))) (c ()) (Fd L n b e (A2 (a+1)) c d)) none) (d b)
theorem MD(n a n1 n2):E2 0 ((Q2 L).keep 4) (bd (Q2 L) Y Q (cd [1,1,0,1,0,0] Ji)) n ⟨gp [(0,pS a),(12,pI n1),(0,pI n2)] 59,[],s⟩ k =
 Fd L n a n1 n2 (λ_=>k .ret ⟨gp [(2,.fl 0),(0,pI (4:Int))] 70,[.arr true 3 1 []],s⟩) (λa=>k (.exit 0) ⟨gp [(0,pS a)] 73,[],s⟩):=by
 induction n generalizing a n1 n2 with
 | zero=>rfl
 | succ n b=>rw[Fd];simp only[<-b];kernel_rfl
noncomputable def Cq{R:Type}(L n:Nat)(c:By)(a b:Int)(d:LL)(e:By->Int->LL->Option R):Option R:=match n with|0=>none|n+1=>cond (ltI b a) (cond (inR b c.length) (cond (F8 (d.length+1)) (Cq L n c a (A2 (b+1)) (d++[[(SV.int .i64 (A2 (bAt c b)))]]) e) none) none) (e c a d)
theorem ME(n b a n2 l3):E2 2 ((Q2 L).keep 13) (bd (Q2 L) Y Q (cd [1,1,1,1,0,1,1,0,0,1,0,0] Ji)) n ⟨gp [(0,pS b),(4,.ptr 1 0 0),(0,pI a),(22,pI a),(0,pI n2)] 43,[.arr true 3 1 l3,.box [pS b,.fl 0,pI (128:Int),pI (0:Int),pI (72:Int),pB false]],s⟩ k =
 Cq L n b a n2 l3 (λb a d=>k (.exit 2) ⟨gp [(0,pS b),(4,.ptr 1 0 0),(0,pI a)] 67,[.arr true 3 1 d,.box [pS b,.fl 0,pI (128:Int),pI (0:Int),pI (72:Int),pB false]],s⟩):=by
 induction n generalizing b a n2 l3 with
 | zero=>rfl
 | succ n c=>rw[Cq];simp only[<-c];kernel_rfl
noncomputable def L6{R:Type}(L n:Nat)(b:LL)(a:By)(c d e:Int)(f:Bool)(i:Int->LL->By->Int->Int->Int->Bool->Option R)(j:LL->By->Int->Int->Int->Bool->Option R):Option R:=match n with|0=>none|n+1=>cond (not (a==[])) (cond (A7 a.length) (cond (ltN e 1000000) (cond (ltN d 1099511627777) (cond (ltN c 1152921504606846976) (cond (j6 b.length 100000) (vl ((C5 (DS.mk a c d e f b))).1 λh=>vl (DS.l ((C5 (DS.mk a c d e f b))).2) λg=>cond (h !=0) (i h g (DS.rest ((C5 (DS.mk a c d e f b))).2) (DS.n ((C5 (DS.mk a c d e f b))).2) (DS.i ((C5 (DS.mk a c d e f b))).2) (DS.b ((C5 (DS.mk a c d e f b))).2) (DS.st ((C5 (DS.mk a c d e f b))).2)) (L6 L n g (DS.rest ((C5 (DS.mk a c d e f b))).2) (DS.n ((C5 (DS.mk a c d e f b))).2) (DS.i ((C5 (DS.mk a c d e f b))).2) (DS.b ((C5 (DS.mk a c d e f b))).2) (DS.st ((C5 (DS.mk a c d e f b))).2) i j)) none) none) none) none) none) (j b a c d e f)
theorem Uk(n d f e a b c):E2 2 ((Q2 L).keep 20) (bd (Q2 L) Y Q (cd [1,1,1,1,1,1,0,0,0] Ji)) n ⟨gp [(5,.ptr 1 0 0)] 68,[.arr true 3 1 d,.box [pS f,.fl 0,pI e,pI a,pI b,pB c]],s⟩ k =
 L6 L n d f e a b c (λn0 i l a b j g=>k .ret ⟨gp [(2,.fl 2),(0,pI n0)] 70,[.arr true 3 1 i,.box [pS l,.fl 0,pI a,pI b,pI j,pB g],.arr true 3 1 []],s⟩) (λd f e a b c=>k (.exit 4) ⟨gp [(5,.ptr 1 0 0)] 68,[.arr true 3 1 d,.box [pS f,.fl 0,pI e,pI a,pI b,pB c]],s⟩):=by
 induction n generalizing d f e a b c with
 | zero=>rfl
 | succ n h=>rw[L6];simp only[<-h];kernel_rfl
noncomputable def Lr{R:Type}(L:Nat)(M:By)(N:Int->Option R)(K:Int->LL->By->Int->Int->Int->Bool->Option R)(O:LL->By->Int->Int->Int->Bool->Option R):Option R:=cond (ltI 1024 (M.length:Int)) (N 3) (Fd L L M (M.length:Int) 0 (λ_=>N 4) (λa=>cond (A7 a.length) (vl (F4 (u8n (45:Int)) a) λC=>cond (ltI 0 C) (Cq L L a C 0 [] (λb h c=>vl (A2 (h+1)) λD=>cond (O2 D (b.length:Int) b.length) (vl (cut b D (b.length:Int)) λJ=>cond (ltI 256 (c.length:Int)) (K 3 c J 128 0 72 false) (L6 L L c J 128 0 72 false (λn i F o p q d=>K n i F o p q d) (λj G r t u e=>O j G r t u e))) none)) (L6 L L [] a 128 0 72 false (λv l H w x y f=>K v l H w x y f) (λm I z A B g=>O m I z A B g))) none))
theorem Ad6(d:Nat)(s0):evC (Q2 L) (d+1) W Q 69 [pS s0] [] s=Lr L s0 (λg=>some (.tup [.fl 0,pI g],[.arr true 3 1 []],s)) (λg o v e f r m=>some (.tup [.fl 2,pI g],[.arr true 3 1 o,.box [pS v,.fl 0,pI e,pI f,pI r,pB m],.arr true 3 1 []],s)) (λn u q e f l=>some (.tup [.fl 0,pI (0:Int)],[.arr true 3 1 n,.box [pS u,.fl 0,pI q,pI e,pI f,pB l]],s)):=by refine(evE (fn:=ae5) (by kernel_rfl)).trans ?_;generalize evC (Q2 L) d=Y;unfold Lr;exact let i:=(H4 4 (I1 (Q2 L) Y Q (cd [1,1,1,1,1,1,1] Ji) (K6 (Q2 L) ae5)));(b8 (by kernel_rfl) (A1 rfl ((MD L Y Q s (H4 0 (I1 (Q2 L) Y Q (cd [1,1,1] Ji) (K6 (Q2 L) ae5))) L s0 (s0.length:Int) 0).trans (congr (congr rfl (by kernel_rfl)) (fx1 λa=>(b8 (by kernel_rfl) (A1 (A6 λc=>(A1 ((ME L Y Q s (H4 2 (I1 (Q2 L) Y Q (cd [1,1,1,1,0,1,1,0,1] Ji) (I1 (Q2 L) Y Q (cd [1,1,1,1,1] Ji) (K6 (Q2 L) ae5)))) L a c 0 []).trans (congr rfl (fx3 λt j b=>(b8 (by kernel_rfl) (A6 λp=>(A1 (A6 λh=>(A1 rfl ((Uk L Y Q s i L b h 128 0 72 false).trans (by kernel_rfl)))) rfl)))))) ((Uk L Y Q s i L [] a 128 0 72 false).trans (by kernel_rfl)))) rfl)))))))
noncomputable abbrev DQ:Code:=F6 ak2
noncomputable def Bf(L:Nat):Cfg:=D1 L [52] (A5 [(2,[0,0,2,0])]) [] (A5 [(6,[4]),(3,[0,0,3]),(5,[4]),(4,[0,0,3,11]),(2,[0,0,3,4]),(1,[0,0,3]),(0,[0,0])]) [] (A5 [(0,[]),(1,[0,0,3])]) (some [4]) [] [] []
noncomputable def X1{R:Type}(L n:Nat)(b:By)(c a:Int)(d:Int->Option R)(e:Unit->Option R):Option R:=match n with|0=>none|n+1=>cond (not (ltI a 0)) (cond (inR a b.length) (cond ((bAt b a)==c) (d a) (X1 L n b c (A2 (a-1)) d e)) none) (e ())
theorem AV(n s0 c1 i2):E2 0 ((Bf L).keep 2) (bd (Bf L) Y Q (cd [1,0,1,0,0] DQ)) n ⟨gp [(0,pS s0),(0,p8 c1),(3,pI i2)] 13,[],s⟩ k =
 X1 L n s0 c1 i2 (λn0=>k .ret ⟨gp [(4,pI n0)] 14,[],s⟩) (λ_=>k (.exit 0) ⟨gp [] 19,[],s⟩):=by
 induction n generalizing s0 c1 i2 with
 | zero=>rfl
 | succ n a=>rw[X1];simp only[<-a];kernel_rfl
noncomputable def AU{R:Type}(L:Nat)(d:By)(e:Int)(c:Int->Option R):Option R:=vl (A2 ((d.length:Int)-1)) λa=>X1 L L d e a (λb=>c b) (λ_=>c (-1))
theorem SP(d:Nat)(s0 c1):evC (Bf L) (d+1) W Q 52 [pS s0,p8 c1] [] s=AU L s0 c1 (λb=>some (pI b,[],s)):=by refine(evE (fn:=ak2) (by kernel_rfl)).trans ?_;generalize evC (Bf L) d=Y;unfold AU;exact(b8 (by kernel_rfl) (A6 λa=>((AV L Y Q s (H4 0 (I1 (Bf L) Y Q (cd [1,1] DQ) (K6 (Bf L) ak2))) L s0 c1 a).trans (by kernel_rfl))))
noncomputable def AE(L:Nat):Cfg:=D1 L [31] (A5 []) [(52,DG)] (A5 [(1,[4]),(0,[0,0])]) [52] (A5 []) (some [4]) [] [] []
noncomputable def QH{R:Type}(L:Nat)(b:By)(a:Int)(c:Int->Option R):Option R:=cond (A7 b.length) (cond (inR a 256) (c (F4 (u8n a) b)) none) none
theorem WW(d:Nat)(s0 c1):evC (AE L) (d+1) W Q 31 [pS s0,p8 c1] [] s=QH L s0 c1 (λa=>some (pI a,[],s)):=by refine(evE (fn:=Tryz.f31) (by kernel_rfl)).trans ?_;generalize evC (AE L) d=Y;unfold QH;kernel_rfl
end
theorem Aq(c:UInt8):-1<=C2 c/\C2 c<=35:=by unfold C2 Ga;grind
theorem Fo(k b:Int):1<=G9 k b/\G9 k b<=26:=by unfold G9;omega
theorem X5{x w:Int}(b:0<=x)(c:x<=35)(a:0<=w)(w1:w<=1099511627776):0<=x*w/\x*w<=38482906972160:=by refine⟨ag6 b a,?_⟩;have:=Int.mul_le_mul c w1 a (show(0:Int)<=35 by omega);omega
theorem Kr(b:Int):∀(s:By) (i w k:Int),0<=i->0<=w->w<=1099511627776->(M3 b s i w k).1=0->i<=(M3 b s i w k).2.2/\(M3 b s i w k).2.2<=1099511627776/\(M3 b s i w k).2.1.length<s.length
 | [],i,w,k,_,_,_,h=>by simp[M3] at h
 | c::r,i,w,k,m,d,a,h=>by
  have l:=Aq c;have o:=Fo k b;unfold M3 at h ⊢;split at h
  ·simp at h
  ·rename_i e;rw[if_neg e];have n:=X5 (by omega) l.2 d a;split at h
   ·simp at h
   ·rename_i f;rw[if_neg f];split at h
    ·grind
    ·rename_i g;rw[if_neg g];split at h
     ·omega
     ·rename_i j;rw[if_neg j];obtain⟨p,q,t⟩:=Kr b r (i+C2 c*w) (w*(36-G9 k b)) (k+36) (by omega) (ag6 d (by omega)) (by omega) h;grind
theorem RZ(f:Int)(b:Int)(g z:Bool)(l:LL)(M:0<=b)(N:b<1000000):∀(s:By) (n:Nat) (i w k:Int),s.length<n->s.length<=1000000000->0<=i->i<=1099511627776->0<=w->w<=1099511627776->0<=k->k+36*s.length<=100000000000->
  ∃H,∀(R:Type) (a:Int->By->Int->Int->Int->Bool->Bool->LL->Int->Option R),Ag LF n w s f i b g z l k a=a (M3 b s i w k).1 (M3 b s i w k).2.1 f (M3 b s i w k).2.2 b g z l H:=by
 intro s
 induction s with
 | nil=>
  intro n i w k K L O B G h P o;obtain⟨n,rfl⟩:∃m,n=m+1:=⟨n-1,by omega⟩
  refine⟨k,λR a=>?_⟩;rw[Ag];rfl
 | cons c r T=>
  intro n i w k K L O B G h P o;obtain⟨n,rfl⟩:∃m,n=m+1:=⟨n-1,by omega⟩
  rw[o5] at K L o;have S:=Aq c;have V:=Fo k b;have Q:u8n (bAt (c::r) 0)=c:=by unfold u8n bAt;simp
  have C:inR (bAt (c::r) 0) 256=true:=by rw[Gi];have:=c.toNat_lt;exact M5 (by omega) (by simp;omega)
  have j:cut (c::r) 1 ((c::r).length:Int)=r:=by
   have:=Kn (c::r) 1 (c::r).length;grind
  have F:((c::r)==([]:By))=false:=rfl;have start:∀(R:Type) (a:Int->By->Int->Int->Int->Bool->Bool->LL->Int->Option R),Ag LF (n+1) w (c::r) f i b g z l k a =
    cond (ltI (C2 c) 0) (a 4 (c::r) f i b g z l k)
     (vl (A2 (i+(A2 (C2 c*w)))) λd=>cond (ltI 1099511627776 d) (a 19 r f d b g z l k)
      (cond (ltI (C2 c) (G9 k b)) (a 0 r f d b g z l (x6 k 36))
       (vl (A2 (36-(G9 k b))) λp=>cond (ltI 1099511627776 (A2 (w*p))) (a 19 r f d b g z l (x6 k 36)) (Ag LF n (A2 (w*p)) r f d b g z l (x6 k 36) a)))):=by
   intro R a;rw[Ag];rw[F,C,M5 (by omega) (by rw[o5];omega),P3 (by omega) (by rw[o5];omega) (by omega),j,Q,J8,J8];rfl
  unfold M3;by_cases u:C2 c<0
  ·rw[if_pos u];refine⟨k,λR a=>?_⟩;rw[start,C6 u];rfl
  ·rw[if_neg u];have U:=X5 (by omega) S.2 G h;have q:A2 (C2 c*w)=C2 c*w:=A3;have t:A2 (i+C2 c*w)=i+C2 c*w:=A3;by_cases v:1099511627776<i+C2 c*w
   ·rw[if_pos v];refine⟨k,λR a=>?_⟩;rw[start,A4,q,t];simp only[vl,cond_false];rw[C6 v];rfl
   ·rw[if_neg v];by_cases y:C2 c<G9 k b
    ·rw[if_pos y];refine⟨x6 k 36,λR a=>?_⟩;rw[start,A4,q,t];simp only[vl,cond_false];rw[A4,C6 y];rfl
    ·rw[if_neg y];have I:A2 (36-G9 k b)=36-G9 k b:=A3;have D:=X5 (x:=36-G9 k b) (by omega) (by omega) G h;rw[ae0] at D;have J:A2 (w*(36-G9 k b))=w*(36-G9 k b):=A3;by_cases A:1099511627776<w*(36-G9 k b)
     ·rw[if_pos A];refine⟨x6 k 36,λR a=>?_⟩;rw[start,A4,q,t];simp only[vl,cond_false];rw[A4,A4,I,J,C6 A];rfl
     ·rw[if_neg A];obtain⟨H,e⟩:=T n (i+C2 c*w) (w*(36-G9 k b)) (k+36) (by omega) (by omega) (by omega) (by omega) (by omega) (by omega) (by omega) (by omega);refine⟨H,λR a=>?_⟩;rw[start,A4,q,t];simp only[vl,cond_false];rw[A4,A4,I,J,A4];exact e R a
theorem SC(a:By)(n i b:Int)(f z:Bool)(l:LL)(h:A7 a.length=true)(j:ltN b 1000000=true)(k:ltN i 1099511627777=true) :
  ∃c,∀(R:Type) (d:Int->By->Int->Int->Int->Bool->Bool->LL->Int->Option R),Am9 LF a n i b f z l d=d (Uc b a i) (Ud b a i) n (Js b a i) b f z l c:=by
 have q:=Z8 h;obtain⟨g,p⟩:=J7.1 j;obtain⟨o,r⟩:=J7.1 k;have m:=G7;obtain⟨c,e⟩:=RZ n b f z l g (by omega) a LF i 1 0 (by omega) (by omega) o (by omega) (by omega) (by omega) (by omega) (by omega);exact⟨c,λR d=>e R _⟩
theorem KL{R:Type}{j:Int->By->Int->Int->Int->Bool->Bool->LL->Option R}(a:By)(n i b:Int)(d z:Bool)(l:LL)(y:A7 a.length=true)(C:ltN b 1000000=true)(g:ltN i 1099511627777=true)(D:ltN n 1152921504606846976=true)(h:j6 l.length 100000=true) :
  QC LF a n i b d z l j=j (C5 ⟨a,n,i,b,d,l⟩).1 (C5 ⟨a,n,i,b,d,l⟩).2.rest (C5 ⟨a,n,i,b,d,l⟩).2.n (C5 ⟨a,n,i,b,d,l⟩).2.i (C5 ⟨a,n,i,b,d,l⟩).2.b (C5 ⟨a,n,i,b,d,l⟩).2.st z (C5 ⟨a,n,i,b,d,l⟩).2.l:=by
 obtain⟨F,Q⟩:=J7.1 g;obtain⟨n0,S⟩:=J7.1 D;have N:=y9 h;unfold QC C5;rw[y,C,g];simp only[cond_true];by_cases e:Uc b a i=0
 ·rw[if_pos e,e];obtain⟨G,I,T⟩:=Kr b a i 1 0 F (by omega) (by omega) e;have H:i<=Js b a i:=G;have J:Js b a i<=1099511627776:=I;have o:A2 ((l.length:Int)+1)=(l.length:Int)+1:=A3;simp only[vl];rw[o];generalize Js b a i=x at *;have f:0<=x:=by omega
  obtain⟨X,rfl⟩:=o0 f;have p:A2 ((X:Int)-i)=(X:Int)-i:=A3;have u:((l.length:Int)+1)=((l.length+1:Nat):Int):=rfl;have v:o9 (X:Int) ((l.length+1:Nat):Int)=((X / (l.length+1):Nat):Int):=I6 _ _;have w:o8 (X:Int) ((l.length+1:Nat):Int)=((X % (l.length+1):Nat):Int):=Ef _ _;have M:=s8 X (l.length+1);have O:=aa8 X (show 0<l.length+1 by omega);rw[p,u,v,w];generalize K:X / (l.length+1)=A at *;generalize L:X % (l.length+1)=B at *;have q:A2 (A:Int)=(A:Int):=A3;have r:A2 (n+(A:Int))=n+(A:Int):=A3;have t:A2 ((B:Int)+1)=(B:Int)+1:=A3;have k:((0:Int)!=0)=false:=rfl;have m:((((l.length+1:Nat):Int))!=0)=true:=by rw[bne_iff_ne];omega
  rw[q,r,t,k,J8,J8,A8,m];simp only[cond_true,cond_false];cases P:ptI (n+(A:Int)) with
  | false=>simp
  | true=>
   simp only[j5,cond_false,if_true];by_cases c:(256:Int)<((l.length+1:Nat):Int)
   ·rw[if_pos c,C6 c];rfl
   ·rw[if_neg c,A4,cond_false,QN (by omega) (by show(B:Int)<((l.length+1:Nat):Int);omega),h];rfl
 ·rw[if_neg e,show(Uc b a i !=0)=true from bne_iff_ne.2 e];rfl
theorem FJ(c:UInt8):∀l:By,-1<=F4 c l
 | []=>by simp[F4]
 | b::r=>by
  have:=FJ c r;unfold F4;omega
theorem Tq(c b:UInt8):∀l:By,F4 c (l++[b])=if b=c then (l.length:Int) else F4 c l
 | []=>by
  by_cases h:b=c<;>simp[F4,h]
 | a::l=>by
  have d:=Tq c b l;rw[List.cons_append,F4,d];by_cases h:b=c
  ·grind
  ·rw[if_neg h,if_neg h];rfl
theorem FD{R:Type}{b:Int->Option R}{d:Unit->Option R}(s:By)(c:UInt8)(o:s.length<=1000000000):∀(m n:Nat),m<=s.length->m<n->
  X1 LF n s (c.toNat:Int) ((m:Int)-1) b d=if F4 c (s.take m)<0 then d () else b (F4 c (s.take m)):=by
 intro m
 induction m with
 | zero=>
  intro n i j;obtain⟨n,rfl⟩:∃m,n=m+1:=⟨n-1,by omega⟩
  rw[X1];rw[A8];rfl
 | succ m l=>
  intro n i j;obtain⟨n,rfl⟩:∃m,n=m+1:=⟨n-1,by omega⟩
  rw[X1];have e:(((m+1:Nat):Int)-1)=(m:Int):=by omega
  have f:A2 ((m:Int)-1)=(m:Int)-1:=A3;have k:s.take (m+1)=s.take m++[s.getD m 0]:=by
   rw[List.take_add_one,j7,s6 (by omega)];rfl
  rw[e,f,A4,K7,L5,k,Tq];simp only[j1,cond_true];by_cases h:s.getD m 0=c
  ·rw[if_pos h,h,beq_self_eq_true,cond_true,c9,Nat.min_eq_left (by omega),V8]
  ·have a:(((s.getD m 0).toNat:Int)==(c.toNat:Int))=false:=by
    rw[beq_eq_false_iff_ne];intro g;exact h (UInt8.toNat.inj (Int.ofNat.inj g))
   rw[if_neg h,a,cond_false];exact l n (by omega) (by omega)
theorem YY{c:Int}(h:inR c 256=true):c=((u8n c).toNat:Int):=by simp only[inR,p9,decide_eq_true_eq] at h;unfold u8n;simp;omega
theorem FE{R:Type}{a:Int->Option R}(s:By)(c:Int)(e:A7 s.length=true)(f:inR c 256=true):AU LF s c a=a (F4 (u8n c) s):=by
 have j:=Z8 e;have g:=G7;have i:=YY f;generalize u8n c=d at *;subst i;unfold AU;have b:A2 ((s.length:Int)-1)=(s.length:Int)-1:=A3;simp only[vl];rw[b];refine b8 (FD s d (by omega) s.length LF (by omega) (by omega)) ?_;rw[af2];have:=FJ d s;by_cases h:F4 d s<0
 ·rw[if_pos h,show F4 d s=-1 by omega]
 ·rw[if_neg h]
theorem KY{R:Type}{a:Int->Option R}(s:By)(c:Int)(b:A7 s.length=true)(d:inR c 256=true):QH LF s c a=a (F4 (u8n c) s):=by unfold QH;grind
theorem Gt:∀s:By,(45∈s->F4 45 s=(D5 s:Int))/\(45∉s->F4 45 s=-1/\D5 s=0)
 | []=>⟨λh=>(by cases h),λ_=>⟨rfl,rfl⟩⟩
 | b::r=>by
  obtain⟨a,c⟩:=Gt r;unfold F4 D5;grind
theorem IF{c:UInt8}(h:Ga c=none):C2 c=-1:=by unfold C2;rw[h]
theorem IG{c:UInt8}{x:Nat}(h:Ga c=some x):C2 c=x:=by unfold C2;rw[h]
theorem Ks(b:Nat):∀(s:By) (i w k:Nat),M3 (b:Int) s (i:Int) (w:Int) ((36*k:Nat):Int)=((((C1 b s i w k).2.2:Nat):Int),(M3 (b:Int) s (i:Int) (w:Int) ((36*k:Nat):Int)).2)/\
  ((C1 b s i w k).2.2=0->(M3 (b:Int) s (i:Int) (w:Int) ((36*k:Nat):Int)).2=((C1 b s i w k).2.1,((C1 b s i w k).1:Int)))
 | [],i,w,k=>⟨rfl,λh=>by simp[C1] at h⟩
 | c::r,i,w,k=>by
  unfold M3 C1;cases d:Ga c with
  | none=>
   rw[IF d,Th];grind
  | some x=>
   rw[IG d,V8,Mn];have e:(i:Int)+(x:Int)*(w:Int)=((i+x*w:Nat):Int):=by push_cast;rfl
   have n:=N6 k b;have f:(w:Int)*(36-(thr k b:Int))=((w*(36-thr k b):Nat):Int):=by grind
   have g:((36*k:Nat):Int)+36=((36*(k+1):Nat):Int):=by omega
   have a:Ip=1099511627776:=by decide
   rw[e,f,g,a];simp only;generalize i+x*w=I;generalize w*(36-thr k b)=W;by_cases j:1099511627776<I
   ·grind
   ·rw[V8,if_neg j];by_cases l:x<thr k b
    ·grind
    ·rw[V8,if_neg l];by_cases m:1099511627776<W
     ·grind
     ·rw[V8,if_neg m];exact Ks b r I W (k+1)
theorem WQ(l:List Nat)(i n:Nat):Ex (B4 l) i (n:Int)=B4 (N2 l i n):=by unfold Ex N2 B4;simp_all
theorem BH(b:Nat)(s:By)(i:Nat):Uc (b:Int) s (i:Int)=((C1 b s i 1 0).2.2:Int)/\((C1 b s i 1 0).2.2=0->Ud (b:Int) s (i:Int)=(C1 b s i 1 0).2.1/\Js (b:Int) s (i:Int)=((C1 b s i 1 0).1:Int)):=by obtain⟨a,c⟩:=Ks b s i 1 0;have e:M3 (b:Int) s (i:Int) 1 0=M3 (b:Int) s (i:Int) ((1:Nat):Int) ((36*0:Nat):Int):=rfl;unfold Uc Ud Js;rw[e];refine⟨by rw[a],λh=>?_⟩;have:=c h;rw[this];exact⟨rfl,rfl⟩
theorem At8(s:By)(a:List Nat)(n i b:Nat)(c:Bool)(h:(C1 b s i 1 0).2.2=0)(q:i<=(C1 b s i 1 0).1)(o:Bq (n+(C1 b s i 1 0).1 / (a.length+1))=true)(p:¬ 256<a.length+1) :
  C5 ⟨s,(n:Int),(i:Int),(b:Int),c,B4 a⟩=(0,⟨(C1 b s i 1 0).2.1,((n+(C1 b s i 1 0).1 / (a.length+1):Nat):Int),(((C1 b s i 1 0).1 % (a.length+1)+1:Nat):Int),((K3 ((C1 b s i 1 0).1-i) (a.length+1) (!c):Nat):Int),true,B4 (N2 a ((C1 b s i 1 0).1 % (a.length+1)) (n+(C1 b s i 1 0).1 / (a.length+1)))⟩):=by
 obtain⟨j,k⟩:=BH b s i;obtain⟨l,m⟩:=k h;unfold C5;simp only;rw[j,h,if_pos (show((0:Nat):Int)=0 from rfl),l,m,C0];generalize (C1 b s i 1 0).1=X at *;have d:((a.length:Int)+1)=((a.length+1:Nat):Int):=rfl;have e:o9 (X:Int) ((a.length+1:Nat):Int)=((X / (a.length+1):Nat):Int):=I6 _ _;have f:o8 (X:Int) ((a.length+1:Nat):Int)=((X % (a.length+1):Nat):Int):=Ef _ _;have g:(n:Int)+((X / (a.length+1):Nat):Int)=((n+X / (a.length+1):Nat):Int):=rfl;rw[d,e,f,g,Fe,o,if_pos rfl,V8,a7,WQ,a7,show((X:Int)-(i:Int)).toNat=X-i by omega];rfl
theorem An0(s:By)(a:List Nat)(n i b:Nat)(f:Bool):((C1 b s i 1 0).2.2≠0->(C5 ⟨s,(n:Int),(i:Int),(b:Int),f,B4 a⟩).1=((C1 b s i 1 0).2.2:Int))/\
  ((C1 b s i 1 0).2.2=0->Bq (n+(C1 b s i 1 0).1 / (a.length+1))=false->(C5 ⟨s,(n:Int),(i:Int),(b:Int),f,B4 a⟩).1=2)/\
  ((C1 b s i 1 0).2.2=0->Bq (n+(C1 b s i 1 0).1 / (a.length+1))=true->256<a.length+1->(C5 ⟨s,(n:Int),(i:Int),(b:Int),f,B4 a⟩).1=3):=by
 obtain⟨c,l⟩:=BH b s i;have g:(((B4 a).length:Int)+1)=((a.length+1:Nat):Int):=by rw[C0];rfl
 have j:∀X:Nat,o9 (X:Int) ((a.length+1:Nat):Int)=((X / (a.length+1):Nat):Int):=λX=>I6 _ _
 have k:∀A:Nat,(n:Int)+(A:Int)=((n+A:Nat):Int):=λA=>rfl
 refine⟨λh=>?_,λh e=>?_,λh e o=>?_⟩
 ·unfold C5;simp only;rw[c,V8]
 ·obtain⟨m,d⟩:=l h;unfold C5;simp only;rw[c,h,if_pos (show((0:Nat):Int)=0 from rfl),d,g,j,k,Fe,e,if_neg (by simp)]
 ·obtain⟨m,d⟩:=l h;unfold C5;simp only;rw[c,h,if_pos (show((0:Nat):Int)=0 from rfl),d,g,j,k,Fe,e,if_pos rfl,Th]
theorem W7(a:List Nat)(n i b:Nat)(f:Bool):E0 [] a n i b f=(a,0):=by rw[E0];rfl
theorem Bl{s:By}(c:s≠[])(a:List Nat)(n i b:Nat)(f:Bool)(h:(C1 b s i 1 0).2.2≠0):E0 s a n i b f=([],(C1 b s i 1 0).2.2):=by rw[E0,dif_neg c];grind
theorem Y9{s:By}(c:s≠[])(a:List Nat)(n i b:Nat)(f:Bool)(h:(C1 b s i 1 0).2.2=0):E0 s a n i b f =
  if Bq (n+(C1 b s i 1 0).1 / (a.length+1)) then (if 256<a.length+1 then ([],3) else E0 (C1 b s i 1 0).2.1 (N2 a ((C1 b s i 1 0).1 % (a.length+1)) (n+(C1 b s i 1 0).1 / (a.length+1))) (n+(C1 b s i 1 0).1 / (a.length+1)) ((C1 b s i 1 0).1 % (a.length+1)+1) (K3 ((C1 b s i 1 0).1-i) (a.length+1) f) false) else ([],2):=by
 rw[E0,dif_neg c];simp only;rw[dif_pos h]
theorem T1(l:List Nat)(i n:Nat):(N2 l i n).length=l.length+1:=by unfold N2;grind
theorem TK:∀(r:Nat) (s:By) (a:List Nat) (n i b f:Nat) (c:Bool),s.length<=r->r<f->s.length<=1000000->a.length<=256->n<=1114111->i<=1000->b<=500->
  ((E0 s a n i b (!c)).2=0->∃u t q p j,∀(R:Type) (d:Int->LL->By->Int->Int->Int->Bool->Option R) (g:LL->By->Int->Int->Int->Bool->Option R),L6 LF f (B4 a) s (n:Int) (i:Int) (b:Int) c d g=g (B4 (E0 s a n i b (!c)).1) u t q p j)/\
  ((E0 s a n i b (!c)).2≠0->(E0 s a n i b (!c)).1=[]/\∃l u t q p j,∀(R:Type) (d:Int->LL->By->Int->Int->Int->Bool->Option R) (g:LL->By->Int->Int->Int->Bool->Option R),L6 LF f (B4 a) s (n:Int) (i:Int) (b:Int) c d g=d ((E0 s a n i b (!c)).2:Nat) l u t q p j):=by
 intro r
 induction r with
 | zero=>
  intro s a n i b f c h K _ _ _ _ _;obtain⟨f,rfl⟩:∃m,f=m+1:=⟨f-1,by omega⟩
  have v:s=[]:=p5.1 (by omega);subst v;rw[W7];refine⟨λ_=>⟨[],n,i,b,c,λR d g=>?_⟩,λh=>absurd rfl h⟩;rw[L6];rfl
 | succ r L=>
  intro s a n i b f c h K X Y Z h4 h5;obtain⟨f,rfl⟩:∃m,f=m+1:=⟨f-1,by omega⟩
  by_cases v:s=[]
  ·subst v;rw[W7];refine⟨λ_=>⟨[],n,i,b,c,λR d g=>?_⟩,λh=>absurd rfl h⟩;rw[L6];rfl
  ·have start:∀(R:Type) (d:Int->LL->By->Int->Int->Int->Bool->Option R) (g:LL->By->Int->Int->Int->Bool->Option R),L6 LF (f+1) (B4 a) s (n:Int) (i:Int) (b:Int) c d g =
     cond ((C5 ⟨s,n,i,b,c,B4 a⟩).1 !=0) (d (C5 ⟨s,n,i,b,c,B4 a⟩).1 (C5 ⟨s,n,i,b,c,B4 a⟩).2.l (C5 ⟨s,n,i,b,c,B4 a⟩).2.rest (C5 ⟨s,n,i,b,c,B4 a⟩).2.n (C5 ⟨s,n,i,b,c,B4 a⟩).2.i (C5 ⟨s,n,i,b,c,B4 a⟩).2.b (C5 ⟨s,n,i,b,c,B4 a⟩).2.st)
      (L6 LF f (C5 ⟨s,n,i,b,c,B4 a⟩).2.l (C5 ⟨s,n,i,b,c,B4 a⟩).2.rest (C5 ⟨s,n,i,b,c,B4 a⟩).2.n (C5 ⟨s,n,i,b,c,B4 a⟩).2.i (C5 ⟨s,n,i,b,c,B4 a⟩).2.b (C5 ⟨s,n,i,b,c,B4 a⟩).2.st d g):=by
    intro R d g;rw[L6];rw[show(s==([]:By))=false from beq_eq_false_iff_ne.2 v,Ag5,J8,J8,J8,C0,w6 (show a.length<=100000 by omega)];rfl
   obtain⟨G,H,I⟩:=An0 s a n i b c;have o:=At8 s a n i b c;generalize C5 ⟨s,n,i,b,c,B4 a⟩=D at *;by_cases k:(C1 b s i 1 0).2.2=0
   ·rw[Y9 v a n i b (!c) k];obtain⟨M,N⟩:=BH b s i;obtain⟨O,P⟩:=N k;have J:Uc (b:Int) s (i:Int)=0:=by rw[M,k];rfl
    obtain⟨U,V,W⟩:=Kr b s i 1 0 (by omega) (by omega) (by omega) J;have A:(i:Int)<=Js (b:Int) s (i:Int):=U;have B:Js (b:Int) s (i:Int)<=1099511627776:=V;have C:(Ud (b:Int) s (i:Int)).length<s.length:=W;rw[P] at A B;rw[O] at C;cases x:Bq (n+(C1 b s i 1 0).1 / (a.length+1)) with
    | false=>
     rw[if_neg (by simp)];refine⟨λh=>by simp at h,λ_=>⟨rfl,D.2.l,D.2.rest,D.2.n,D.2.i,D.2.b,D.2.st,λR d g=>?_⟩⟩
     ·rw[start,H k x];rfl
    | true=>
     rw[if_pos rfl];by_cases w:256<a.length+1
     ·rw[if_pos w];refine⟨λh=>by simp at h,λ_=>⟨rfl,D.2.l,D.2.rest,D.2.n,D.2.i,D.2.b,D.2.st,λR d g=>?_⟩⟩;rw[start,I k x w];rfl
     ·rw[if_neg w];have o:=o k (by omega) x w;have z:n+(C1 b s i 1 0).1 / (a.length+1)<=1114111:=by
       unfold Bq at x;simp_all
      have F:=aa8 (C1 b s i 1 0).1 (show 0<a.length+1 by omega);have y:=Gh ((C1 b s i 1 0).1-i) (a.length+1) (!c) (by omega);have:=L (C1 b s i 1 0).2.1 (N2 a ((C1 b s i 1 0).1 % (a.length+1)) (n+(C1 b s i 1 0).1 / (a.length+1))) (n+(C1 b s i 1 0).1 / (a.length+1)) ((C1 b s i 1 0).1 % (a.length+1)+1) (K3 ((C1 b s i 1 0).1-i) (a.length+1) (!c)) f true (by omega) (by omega) (by omega) (by rw[T1];omega) z (by omega) y;obtain⟨Q,S⟩:=this;refine⟨λh=>?_,λh=>?_⟩
      ·obtain⟨u,t,q,p,j,e⟩:=Q h;refine⟨u,t,q,p,j,λR d g=>?_⟩;rw[start,o];exact e R d g
      ·obtain⟨T,l,u,t,q,p,j,e⟩:=S h;refine⟨T,l,u,t,q,p,j,λR d g=>?_⟩;rw[start,o];exact e R d g
   ·rw[Bl v a n i b (!c) k];refine⟨λh=>absurd h k,λ_=>⟨rfl,D.2.l,D.2.rest,D.2.n,D.2.i,D.2.b,D.2.st,λR d g=>?_⟩⟩;rw[start,G k,show(((C1 b s i 1 0).2.2:Int)!=0)=true by rw[bne_iff_ne];omega];rfl
theorem Dx(l:List Nat):Qi l=B4 l:=rfl
theorem MB{R:Type}{k0:Unit->Option R}{k1:By->Option R}(s:By)(f:s.length<=1000000):∀(r i n:Nat),i+r=s.length->r<n->
  Fd LF n s (s.length:Int) (i:Int) k0 k1=if (s.drop i).any (λb=>j6 128 b.toNat) then k0 () else k1 s:=by
 intro r
 induction r with
 | zero=>
  intro i n c d;obtain⟨n,rfl⟩:∃m,n=m+1:=⟨n-1,by omega⟩
  rw[Fd];rw[A4,b7 (by omega)];rfl
 | succ r e=>
  intro i n c d;obtain⟨n,rfl⟩:∃m,n=m+1:=⟨n-1,by omega⟩
  rw[Fd];have a:A2 ((i:Int)+1)=((i+1:Nat):Int):=by rw[A3];rfl
  rw[A8,K7,L5,K2 s i (by omega),a,x5];simp only[cond_true];generalize s.getD i 0=b;by_cases h:128<=b.toNat
  ·rw[A4,w6 h];rfl
  ·have:j6 128 b.toNat=false:=by rw[j4,ne_eq,j9];exact h
   rw[A8,this,v8];exact e (i+1) n (by omega) (by omega)
theorem TJ{R:Type}{k0:By->Int->LL->Option R}(s:By)(q:s.length<=1000000)(k:Nat)(p:k<=s.length):∀(r i n:Nat) (l:List Nat),i+r=k->r<n->l.length=i->
  Cq LF n s (k:Int) (i:Int) (B4 l) k0=k0 s (k:Int) (B4 (l++((s.take k).drop i).map (·.toNat))):=by
 intro r
 induction r with
 | zero=>
  intro i n l f h g;obtain⟨n,rfl⟩:∃m,n=m+1:=⟨n-1,by omega⟩
  rw[Cq];rw[A4,b7 (by rw[c9];omega)];simp
 | succ r j=>
  intro i n l f h g;obtain⟨n,rfl⟩:∃m,n=m+1:=⟨n-1,by omega⟩
  rw[Cq];have c:A2 ((i:Int)+1)=((i+1:Nat):Int):=by rw[A3];rfl
  have e:(s.take k).drop i=s.getD i 0::(s.take k).drop (i+1):=by
   rw[K2 (s.take k) i (by rw[c9];omega)]
   congr 1
   rw[j7,j7,p4 (by omega)]
  rw[A8,K7,L5,e,C0,E9 (by omega),c];simp only[cond_true];generalize s.getD i 0=b;have o:=b.toNat_lt;have d:A2 (b.toNat:Int)=(b.toNat:Int):=A3;have a:B4 l++[[SV.int .i64 (A2 (b.toNat:Int))]]=B4 (l++[b.toNat]):=by rw[d,Ll];rfl
  rw[a,j (i+1) n _ (by omega) (by omega) (by simp;omega)];simp
theorem Gu:∀s:By,D5 s<=s.length-1
 | []=>by simp[D5]
 | b::r=>by
  have:=Gu r;unfold D5;grind
theorem MC(s:By)(L:A7 s.length=true):(∃e,I3 s=([],e)/\∀(R:Type) (k0:Int->Option R) (k1:Int->LL->By->Int->Int->Int->Bool->Option R) (a:LL->By->Int->Int->Int->Bool->Option R),Lr LF s k0 k1 a=k0 (e:Nat))\/
  (∃e l k j i f c,I3 s=([],e)/\∀(R:Type) (k0:Int->Option R) (k1:Int->LL->By->Int->Int->Int->Bool->Option R) (a:LL->By->Int->Int->Int->Bool->Option R),Lr LF s k0 k1 a=k1 (e:Nat) l k j i f c)\/
  ((I3 s).2=0/\∃k j i f c,∀(R:Type) (k0:Int->Option R) (k1:Int->LL->By->Int->Int->Int->Bool->Option R) (a:LL->By->Int->Int->Int->Bool->Option R),Lr LF s k0 k1 a=a (B4 (I3 s).1) k j i f c):=by
 have M:=G7;unfold I3;by_cases B:1024<s.length
 ·rw[if_pos B];refine .inl ⟨3,rfl,λR k0 k1 a=>?_⟩;unfold Lr;rw[A8];rfl
 ·rw[if_neg B];have asc:=λ(R:Type) (F:Unit->Option R) (G:By->Option R)=>MB (k0:=F) (k1:=G) s (by omega) s.length 0 LF (by omega) (by omega)
  rw[k9] at asc;cases z:s.any (λb=>j6 128 b.toNat) with
  | true=>
   rw[if_pos rfl];refine .inl ⟨4,rfl,λR k0 k1 a=>?_⟩;unfold Lr;rw[A4,cond_false];refine b8 (asc R _ _) ?_;rw[z,if_pos rfl];rfl
  | false=>
   rw[if_neg (by simp)];obtain⟨H,I⟩:=Gt s;have N:=Gu s;have key:∀(d:List Nat) (t:By),d.length<=256->t.length<=1024->(∀(R:Type) (k0:Int->Option R) (k1:Int->LL->By->Int->Int->Int->Bool->Option R) (a:LL->By->Int->Int->Int->Bool->Option R),Lr LF s k0 k1 a=L6 LF LF (B4 d) t 128 0 72 false k1 a)->
     (∃e l k j i f c,E0 t d 128 0 72 true=([],e)/\∀(R:Type) (k0:Int->Option R) (k1:Int->LL->By->Int->Int->Int->Bool->Option R) (a:LL->By->Int->Int->Int->Bool->Option R),Lr LF s k0 k1 a=k1 (e:Nat) l k j i f c)\/
     ((E0 t d 128 0 72 true).2=0/\∃k j i f c,∀(R:Type) (k0:Int->Option R) (k1:Int->LL->By->Int->Int->Int->Bool->Option R) (a:LL->By->Int->Int->Int->Bool->Option R),Lr LF s k0 k1 a=a (B4 (E0 t d 128 0 72 true).1) k j i f c):=by
    intro d t O U A;obtain⟨C,D⟩:=TK t.length t d 128 0 72 LF false (y5 _) (by omega) (by omega) O (by omega) (by omega) (by omega);rw[j1] at C D;by_cases v:(E0 t d 128 0 72 true).2=0
    ·obtain⟨k,j,i,f,c,e⟩:=C v;exact .inr ⟨v,k,j,i,f,c,λR k0 k1 a=>by rw[A];exact e R k1 a⟩
    ·obtain⟨Q,l,k,j,i,f,c,e⟩:=D v;exact .inl ⟨_,l,k,j,i,f,c,Prod.ext Q rfl,λR k0 k1 a=>by rw[A];exact e R k1 a⟩
   have P:u8n 45=45:=rfl;have top:∀(R:Type) (k0:Int->Option R) (k1:Int->LL->By->Int->Int->Int->Bool->Option R) (a:LL->By->Int->Int->Int->Bool->Option R),Lr LF s k0 k1 a =
     cond (ltI 0 (F4 45 s)) (Cq LF LF s (F4 45 s) 0 [] (λn w r=>cond (O2 (A2 (w+1)) (n.length:Int) n.length)
      (vl (cut n (A2 (w+1)) (n.length:Int)) λx=>cond (ltI 256 (r.length:Int)) (k1 3 r x 128 0 72 false) (L6 LF LF r x 128 0 72 false k1 a)) none))
      (L6 LF LF [] s 128 0 72 false k1 a):=by
    intro R k0 k1 a;unfold Lr;rw[A4,cond_false];refine b8 (asc R _ _) ?_;rw[z,if_neg (by simp),L,P];rfl
   by_cases S:0<D5 s
   ·have u:45∈s:=by
     apply ab0;intro h;have:=(I h).2;omega
    have y:=H u;generalize D5 s=m at *;have g:=λ(R:Type) (K:By->Int->LL->Option R)=>TJ (k0:=K) s (by omega) m (by omega) m 0 LF [] (by omega) (by omega) rfl
    rw[k9] at g;have J:A2 ((m:Int)+1)=((m+1:Nat):Int):=by rw[A3];rfl
    have p:((s.take m).map (·.toNat)).length=m:=by rw[j3,c9];omega
    have q:∀(R:Type) (k0:Int->Option R) (k1:Int->LL->By->Int->Int->Int->Bool->Option R) (a:LL->By->Int->Int->Int->Bool->Option R),Lr LF s k0 k1 a =
      cond (ltI 256 (m:Int)) (k1 3 (B4 ((s.take m).map (·.toNat))) (s.drop (m+1)) 128 0 72 false) (L6 LF LF (B4 ((s.take m).map (·.toNat))) (s.drop (m+1)) 128 0 72 false k1 a):=by
     intro R k0 k1 a;rw[top,y,A8,cond_true];refine b8 (g R _) ?_;rw[J,Kb,Kn,af2,u9,C0,p];rfl
    by_cases o:256<m
    ·rw[if_pos o];refine .inr (.inl ⟨3,B4 ((s.take m).map (·.toNat)),s.drop (m+1),128,0,72,false,rfl,λR k0 k1 a=>?_⟩);rw[q,A8];rfl
    ·rw[if_neg o,if_neg (show ¬m=0 by omega)];exact .inr (key _ (s.drop (m+1)) (by rw[p];omega) (by rw[j0];omega) (λR k0 k1 a=>by rw[q,A4];rfl))
   ·have v:D5 s=0:=by omega
    have y:¬ 0<F4 45 s:=by
     by_cases T:45∈s;all_goals grind
    rw[v,V8,if_pos rfl];refine .inr (key [] s (by simp) (by omega) (λR k0 k1 a=>?_));rw[top,A4];rfl
theorem Lm(l:List Nat):(B4 l).isEmpty=l.isEmpty:=by cases l<;>rfl
theorem Ad7(s:By)(k:A7 s.length=true):∃r H,Lr LF s (λf=>rv (.tup [.fl 0,.s (.int .i64 f)]) [.arr true 3 1 []]) (λf o w c d t j=>rv (.tup [.fl 2,.s (.int .i64 f)]) [.arr true 3 1 o,.box [.s (.str w),.fl 0,.s (.int .i64 c),.s (.int .i64 d),.s (.int .i64 t),.s (.bool j)],.arr true 3 1 []]) (λn v q c d i=>rv (.tup [.fl 0,.s (.int .i64 (0:Int))]) [.arr true 3 1 n,.box [.s (.str v),.fl 0,.s (.int .i64 q),.s (.int .i64 c),.s (.int .i64 d),.s (.bool i)]])=rv r H/\
  r.stab [1,0] H = .tup [.s (.sl (I3 s).1.isEmpty (I3 s).1.isEmpty 1 (Qi (I3 s).1)),.s (.int .i64 ((I3 s).2:Nat))]:=by
 rcases MC s k with⟨e,a,b⟩|⟨e,l,u,p,m,h,g,a,b⟩|⟨a,u,p,m,h,g,b⟩
 ·refine⟨_,_,b _ _ _ _,?_⟩;rw[a];rfl
 ·refine⟨_,_,b _ _ _ _,?_⟩;rw[a];rfl
 ·refine⟨_,_,b _ _ _ _,?_⟩;rw[a,Dx];simp[PV.stab,Oa,Qh,PV.snap,I8,Lm]
theorem EN(l:List Nat):V6 (l.map λn:Nat=>(n:Int))=Im l:=by
 have b:(l.map λn:Nat=>(n:Int)).all ptI=l.all Bq:=by
  rw[ai2]
  congr 1
 have c:(l.map λn:Nat=>(n:Int)).map a8=l:=by
  rw[ae1];exact(aa4 λa _=>by simp).trans (aj6 l)
 unfold V6;rw[j3,b,c];by_cases h:256<l.length
 ·rw[if_pos h];unfold Im;rw[if_pos h]
 ·rw[if_neg h];cases d:l.all Bq with
  | true=>rw[if_pos rfl]
  | false=>
   rw[if_neg (by simp)];unfold Im;grind
theorem EM(l:List Nat):(B4 l).map elI=l.map λn:Nat=>(n:Int):=by unfold B4;rw[ae1];exact aa4 λa _=>rfl
theorem It(l:List Nat):(B4 l).all Lb=true:=by unfold B4;rw[ai2,List.all_eq_true];intro x _;rfl
theorem LD{R:Type}{a:Unit->Option R}{d:By->Bool->LL->Bool->Option R}(s:By)(z:Bool)(p:List Nat)(t:p.length<=1000000000):∀(r i n:Nat) (b:Bool),i+r=p.length->r<n->
  O7 LF n s z (B4 p) b (p.length:Int) (i:Int) a d=if (p.drop i).any (λp=>j6 65 p&&j6 p 90) then a () else d s z (B4 p) (b&&!((p.drop i).any λp=>j6 128 p)):=by
 intro r
 induction r with
 | zero=>
  intro i n b h j;obtain⟨n,rfl⟩:∃m,n=m+1:=⟨n-1,by omega⟩
  rw[O7];rw[A4,b7 (by omega)];simp
 | succ r k=>
  intro i n b h j;obtain⟨n,rfl⟩:∃m,n=m+1:=⟨n-1,by omega⟩
  rw[O7];have f:A2 ((i:Int)+1)=((i+1:Nat):Int):=by rw[A3];rfl
  have g:p.drop i=p.getD i 0::p.drop (i+1):=by
   rw[j7,s6 (by omega),af3,ac2]
  rw[A8,C0,K7,a7,Ib (by omega),Ob _ _ (by omega),g,x5,x5,f];simp only[cond_true,vl];generalize p.getD i 0=q;have go:∀c:Bool,O7 LF n s z (B4 p) c (p.length:Int) ((i+1:Nat):Int) a d=_:=λc=>k (i+1) n c (by omega) (by omega)
  by_cases l:q<65
  ·rw[A8,show j6 65 q=false by rw[j4,ne_eq,j9];omega];have e:j6 128 q=false:=by rw[j4,ne_eq,j9];omega
   rw[show ltI (q:Int) (128:Int)=true from A8,e];simp only[j5,cond_false,ad0,v8];cases b<;>simp only[cond_true,cond_false]<;>rw[go]
  ·rw[A4,show j6 65 q=true by rw[j9];omega];simp only[j1,cond_true,r9];by_cases e:90<q
   ·rw[A8,show j6 q 90=false by rw[j4,ne_eq,j9];omega];simp only[j5,cond_false,v8];by_cases o:q<128
    ·rw[show ltI (q:Int) (128:Int)=true from A8,show j6 128 q=false by rw[j4,ne_eq,j9];omega];cases b<;>simp only[cond_true,cond_false,v8]<;>rw[go]
    ·rw[show ltI (q:Int) (128:Int)=false from A4,show j6 128 q=true by rw[j9];omega];cases b<;>simp only[cond_true,cond_false,Bool.true_or,j5,Bool.and_false]<;>rw[go]<;>simp
   ·rw[A4,show j6 q 90=true by rw[j9];omega];simp
theorem KE:∀(m:Nat) (s:By) (a:List Nat) (n i b:Nat) (f:Bool),s.length<=m->a.length<=256->(E0 s a n i b f).1.length<=256:=by
 intro m
 induction m with
 | zero=>
  intro s a n i b f e d;obtain rfl:=p5.1 (af7.1 e);rw[W7];exact d
 | succ m j=>
  intro s a n i b f e d;by_cases h:s=[]
  ·grind
  ·by_cases c:(C1 b s i 1 0).2.2=0
   ·rw[Y9 h _ _ _ _ _ c];have g:=Hs b s i 1 0 c;split
    ·split
     ·grind
     ·rename_i k;exact j _ _ _ _ _ _ (by omega) (by rw[T1];omega)
    grind
   ·rw[Bl h _ _ _ _ _ c];grind
theorem EH(s:By):(I3 s).1.length<=256:=by
 unfold I3;split
 ·grind
 ·split
  ·grind
  ·split
   ·grind
   ·rename_i h;exact KE _ _ _ _ _ _ _ (y5 _) (by rw[j3,c9];omega)
theorem LE{R:Type}{a:Bool->Option R}(s:By)(b:A7 s.length=true):QL LF s a=a (Y3 s):=by
 have c:=G7;unfold QL Y3;rw[b,cond_true];by_cases h:(I3 s).2=0
 ·have e:(((I3 s).2:Int)!=(0:Int))=false:=by rw[h];rfl
  rw[e,cond_false,Dx,C0,h];have i:=EH s;refine b8 (LD s _ (I3 s).1 (by omega) (I3 s).1.length 0 LF true (by omega) (by omega)) ?_;rw[k9];cases d:(I3 s).1.any (λp=>j6 65 p&&j6 p 90) with
  | true=>simp
  | false=>
   rw[if_neg (by simp),It,EM,EN];simp only[cond_true,vl,r9,j1];cases f:(I3 s).1.any (λp=>j6 128 p) with
   | false=>simp
   | true=>
    simp only[j5,j1,cond_true,v7,beq_self_eq_true,r9];by_cases g:(Im (I3 s).1).2=0;all_goals grind
 grind
theorem SZ{R:Type}{d:Unit->Option R}{e:By->Option R}(s:By)(w:s.length<=1000000000):∀(r i n:Nat),i+r=s.length->r<n->
  L2 LF n s (s.length:Int) (i:Int) d e=if (s.drop i).all P8 then e s else d ():=by
 intro r
 induction r with
 | zero=>
  intro i n l c;obtain⟨n,rfl⟩:∃m,n=m+1:=⟨n-1,by omega⟩
  rw[L2];rw[A4,b7 (by omega)];rfl
 | succ r o=>
  intro i n l c;obtain⟨n,rfl⟩:∃m,n=m+1:=⟨n-1,by omega⟩
  rw[L2];have k:A2 ((i:Int)+1)=((i+1:Nat):Int):=by rw[A3];rfl
  rw[A8,K7,L5,K2 s i (by omega),k,s5];simp only[cond_true];rw[o (i+1) n (by omega) (by omega)];generalize s.getD i 0=b;have j:=Pn b;have u:((b.toNat:Int)!=45) = !(b==45):=congrArg _ (R9 b 45 (by omega));have v:((b.toNat:Int)!=95) = !(b==95):=congrArg _ (R9 b 95 (by omega));rw[u,v];have t:∀{x:Bool},P8 b=x->(if (P8 b&&(s.drop (i+1)).all P8)=true then e s else d ())=if (x&&(s.drop (i+1)).all P8)=true then e s else d ():=λh=>by rw[h]
  cases a:P8 b with
  | true=>
   rw[j] at a;simp only[r9];by_cases f:b=45
   ·subst f;simp (disch:=decide) [ltI]
   ·by_cases g:b=95
    ·subst g;simp (disch:=decide) [ltI]
    ·rcases a with a|a|a|a
     ·rw[show ltI (b.toNat:Int) 97=false from A4,show ltI (122:Int) b.toNat=false from A4];rfl
     ·rw[show ltI (b.toNat:Int) 97=true from A8,show ltI (b.toNat:Int) 48=false from A4,show ltI (57:Int) b.toNat=false from A4];rfl
     ·exact absurd a f
     ·exact absurd a g
  | false=>
   have c:¬((97<=b.toNat/\b.toNat<=122)\/(48<=b.toNat/\b.toNat<=57)\/b=45\/b=95):=λh=>by rw[j.2 h] at a;cases a
   have p:(b==45)=false:=by simpa using λh=>c (.inr (.inr (.inl h)))
   have q:(b==95)=false:=by simpa using λh=>c (.inr (.inr (.inr h)))
   rw[p,q];simp only[j1,cond_true,ad0,aa7,if_false];by_cases f:b.toNat<48
   ·rw[show ltI (b.toNat:Int) 97=true from A8,show ltI (b.toNat:Int) 48=true from A8];rfl
   ·by_cases g:b.toNat<97
    ·rw[show ltI (b.toNat:Int) 97=true from A8,show ltI (b.toNat:Int) 48=false from A4,show ltI (57:Int) b.toNat=true from A8];rfl
    ·rw[show ltI (b.toNat:Int) 97=false from A4,show ltI (122:Int) b.toNat=true from A8,show ltI (b.toNat:Int) 48=false from A4,show ltI (57:Int) b.toNat=true from A8];rfl
theorem TA{R:Type}{a:Bool->Option R}(s:By)(b:A7 s.length=true):Ac7 LF s a=a (X9 s):=by
 have k:=Z8 b;have h:=G7;unfold Ac7 X9;by_cases c:s=[]
 ·simp_all
 ·have o:0<s.length:=x4.2 c;have j:s.isEmpty=false:=by simpa using c
  rw[A4,cond_false,j];by_cases m:63<s.length
  ·rw[A8,show j6 s.length 63=false by rw[j4,ne_eq,j9];omega];rfl
  ·rw[A4,cond_false,show j6 s.length 63=true by rw[j9];omega,K7];have l:(bAt s 0==(45:Int))=(s.getD 0 0==45):=by rw[Gi];exact R9 _ 45 (by omega)
   have d:A2 ((s.length:Int)-1)=((s.length-1:Nat):Int):=by rw[A3];omega
   rw[l,d];simp only[cond_true,vl];rw[K7,L5,show((((s.getD (s.length-1) 0).toNat:Nat):Int)==45)=(s.getD (s.length-1) 0==45) from R9 _ 45 (by omega)];cases e:(s.getD 0 0==45) with
   | true=>
    grind
   | false=>
    rw[show(s.getD 0 0 !=45)=true by unfold bne;rw[e];rfl];simp only[cond_true,cond_false];cases f:(s.getD (s.length-1) 0==45) with
    | true=>
     grind
    | false=>
     rw[show(s.getD (s.length-1) 0 !=45)=true by unfold bne;rw[f];rfl];simp only[cond_false];refine b8 (SZ s k s.length 0 LF (by omega) (by omega)) ?_;rw[k9];cases n:s.all P8 with
     | false=>simp
     | true=>
      rw[if_pos rfl,b,cond_true];simp only[j1,r9,v7];show cond (!(xnB.isPrefixOf s)) _ _=_;cases g:xnB.isPrefixOf s with
      | false=>rfl
      | true=>
       have i:Su s xnB=s.drop 4:=by unfold Su;rw[g];rfl
       show cond (A7 (Su s xnB).length) (a (Y3 (Su s xnB))) none=_;rw[i,Q0 (by rw[j0];omega)];rfl
theorem FC{R:Type}{k0 k1:Unit->Option R}:∀l:List By,(∀x∈l,x.length<=1000000000)->Tg LF l k0 k1=if l.all X9 then k0 () else k1 ()
 | [],_=>rfl
 | x::r,h=>by
  rw[EZ];unfold Qq;rw[Q0 (h x (by simp)),cond_true,s5];have b:=FC (k0:=k0) (k1:=k1) r (λy a=>h y (by simp[a]));grind
theorem An8(s:By)(a:A7 s.length=true):∃r H,hvn LF s (λ_=>rv (.s (.bool false)) [.box [.s (.bool false)]]) (λd b=>rv (.s (.bool d)) [.box [.s (.bool b)],.box [.bad],.box [.bad],.box [.bad]])=rv r H/\r.stab [] H = .s (.bool (K5 s)):=by
 have h:=Z8 a;unfold hvn AT K5;by_cases e:253<s.length
 ·rw[A8,show j6 s.length 253=false by rw[j4,ne_eq,j9];omega];exact⟨_,_,rfl,rfl⟩
 ·rw[A4,cond_false,a,cond_true,show j6 s.length 253=true by rw[j9];omega];cases f:P0 s with
  | true=>exact⟨_,_,rfl,rfl⟩
  | false=>
   rw[cond_false,show((1:Nat)==1&&(0:Int)==(0:Int))=true from rfl,show([46]:By).getD 0 0=46 from rfl,v7,cond_true,FC _ (λx c=>by have:=(Qv c).2;omega)];cases g:(pcs 46 s).all X9 with
   | true=>exact⟨_,_,rfl,rfl⟩
   | false=>exact⟨_,_,rfl,rfl⟩
theorem LG{R:Type}{a:By->By->Int->Option R}(t p:By)(n:Int):XA LF t p n a=a t p n:=rfl
theorem UK{R:Type}{a:By->By->Option R}(t p:By):Ap1 LF t p a=a t p:=rfl
theorem OQ{l R:Type}(g:Yh l)(c:UInt8):∀(m:Nat) (t:By) (n:Nat) (s i:l),t.length<=m->t.length<=1000000000->m<n->X8 g ((pcs c t).map λx=>([.s (.str x)]:List PV)) s=some i->
  ∃u , (∃w:l,∃b:Bool,g [.s (.str u)] w=some (b,i)/\∀(a d:By->By->Int->l->Option R),L8 g LF n [c] t 0 s a d=a [c] u 0 w)\/(∀(a d:By->By->Int->l->Option R),L8 g LF n [c] t 0 s a d=d [c] u 0 i):=by
 intro m
 induction m with
 | zero=>
  intro t n s i z o F h;obtain rfl:=p5.1 (af7.1 z);obtain⟨n,rfl⟩:∃m,n=m+1:=⟨n-1,by omega⟩
  rw[Lq (by simp)] at h;simp only[ad6,ac3,X8] at h;refine⟨[],.inl ⟨s,?_⟩⟩;have e:∀(a d:By->By->Int->l->Option R),L8 g LF (n+1) [c] [] 0 s a d=a [c] [] 0 s:=λa d=>by
   rw[L8];rw[Ti (by simp)];rfl
  cases k:g [.s (.str [])] s with
  | none=>rw[k] at h;cases h
  | some q=>
   obtain⟨b,j⟩:=q;rw[k] at h;have:j=i:=by cases b<;>simpa using h
   subst this;exact⟨b,rfl,e⟩
 | succ m G=>
  intro t n s i z o F h;obtain⟨n,rfl⟩:∃m,n=m+1:=⟨n-1,by omega⟩
  rcases Cw c t with v|⟨p,r,rfl,v⟩
  ·rw[Lq v] at h;simp only[ad6,ac3,X8] at h;refine⟨t,.inl ⟨s,?_⟩⟩;have e:∀(a d:By->By->Int->l->Option R),L8 g LF (n+1) [c] t 0 s a d=a [c] t 0 s:=λa d=>by
    rw[L8];rw[Ti v,Q0 o];rfl
   cases k:g [.s (.str t)] s with
   | none=>rw[k] at h;cases h
   | some q=>
    obtain⟨b,j⟩:=q;rw[k] at h;have:j=i:=by cases b<;>simpa using h
    subst this;exact⟨b,rfl,e⟩
  ·rw[BS v] at h;simp only[ad6,X8] at h;have y:(p++c::r).length=p.length+r.length+1:=by rw[j2,o5];omega
   have A:A2 ((p.length:Int)+0)=((p.length:Nat):Int):=by rw[A3];omega
   have B:A2 ((p.length:Int)+(([c]:By).length:Int))=((p.length+1:Nat):Int):=by
    rw[G6 (by simp;omega) (by simp;omega)];simp
   have C:cut (p++c::r) 0 (p.length:Int)=p:=by rw[Bk,a7,List.take_left]
   have D:cut (p++c::r) ((p.length+1:Nat):Int) ((p++c::r).length:Int)=r:=by
    rw[Af,a7,show p++c::r=(p++[c])++r by simp,List.drop_left' (by simp)]
   have top:∀(a d:By->By->Int->l->Option R),L8 g LF (n+1) [c] (p++c::r) 0 s a d=ydK (g [.s (.str p)] s) λb j=>cond (not b) (d [c] (p++c::r) 0 j) (L8 g LF n [c] r 0 j a d):=λa d=>by
    rw[L8];rw[Xb v,Q0 o,cond_true,A4,cond_false];simp only[vl,A,B,C,D];rw[Kb,cond_true,Kb];rfl
   cases k:g [.s (.str p)] s with
   | none=>rw[k] at h;cases h
   | some q=>
    obtain⟨b,j⟩:=q;rw[k] at h top;cases b with
    | false=>
     have:j=i:=by simpa using h
     subst this;exact⟨p++c::r,.inr λa d=>by rw[top];rfl⟩
    | true=>
     simp only at h;obtain⟨u,⟨w,b,e,f⟩|f⟩:=G r n j i (by omega) (by omega) (by omega) h
     ·exact⟨u,.inl ⟨w,b,e,λa d=>by rw[top];exact f a d⟩⟩
     ·exact⟨u,.inr λa d=>by rw[top];exact f a d⟩
theorem OR{j R:Type}(i:Yh j)(p t:By)(n:Int)(s g:j)(h:(A7 t.length&&(p.length==1&&n==0))=true)(o:X8 i ((pcs (p.getD 0 0) t).map λx=>([.s (.str x)]:List PV)) s=some g) :
  ∃d,∀(a:By->By->Int->j->Option R),HS i LF p t n s a=a p d n g:=by
 have m:=G7;simp only[p9,beq_iff_eq] at h;obtain⟨k,l,rfl⟩:=h;obtain⟨c,rfl⟩:=List.length_eq_one_iff.1 l;have q:=Z8 k;obtain⟨d,⟨r,b,e,f⟩|f⟩:=OQ (R:=R) i c t.length t LF s g (y5 _) q (by omega) o
 ·refine⟨d,λa=>?_⟩;unfold HS;rw[show(((([c]:By).length:Nat):Int)==0)=false from rfl,cond_false];refine b8 (f _ _) ?_;rw[e];rfl
 ·refine⟨d,λa=>?_⟩;unfold HS;rw[show(((([c]:By).length:Nat):Int)==0)=false from rfl,cond_false];exact f _ _
section
def Aw5:List PV->Tr
 | [.s (.str s)]=>.ret (.s (.bool false)) []
 | _=>.fail
def Aw8:List PV->Tr
 | [.s (.str s),.s (.str p)]=>.ret (.s (.int .i64 (Gb s p))) []
 | _=>.fail
def Aw3:List PV->Tr
 | [.s (.sl b a 2 l),.s (.fn (w9 36) [] [])]=>.need (u0 l La) (.need (u0 l smE) (.need (A7 (o3 l)) (.ret (.s (.int .i64 (ixE (s7 S9 l)))) [])))
 | _=>.fail
def Aw2:List PV->Tr
 | [.s (.sl a b 2 l)]=>.need (A7 (o3 l)) (.need (Au8 a l) (.ret (.fl 0) [.arr a 23 2 l]))
 | _=>.fail
def Rh:SV->List (List SV)->Bool × List (List SV)
 | .fn (w9 39) [] [],l=>(((u0 l La)&&((u0 l smE)&&(A7 (o3 l)))),(F1 (Hh (s7 S9 l))))
 | _,_=>(false,[])
def Rq:List PV->Tr
 | [.s (.str s),.s (.str p)]=>.need (A7 (o3 s)) (.need (A7 (o3 p)) (.ret (.s (.int .i64 (Bj s p))) []))
 | _=>.fail
def PM(args:List PV):Tr:=Rq (F2 [[0],[0]] args)
def Gf:List PV->Tr
 | [.s (.sl b a 2 l)]=>.need (u0 l La) (.need (u0 l smE) (.need (A7 (o3 l)) (.split ((Ua (s7 S9 l))==0) (.ret (.tup [.s (.sl (y7 (s7 S9 l)) (y7 (s7 S9 l)) 2 (F1 (isE (s7 S9 l)))),.s (.int .i64 (0:Int))]) []) (.ret (.tup [.s (.sl true true 2 []),.s (.int .i64 (↑(Ua (s7 S9 l)):Int))]) []))))
 | _=>.fail
def Zg(args:List PV):Tr:=Gf (F2 [[2]] args)
end
section
def Na:List PV->Tr
 | [.s (.sl b a 2 l)]=>.need (u0 l La) (.need (u0 l smE) (.need (A7 (o3 l)) (.ret (.tup [.bad,.s (.int .i64 (↑(Ua (s7 S9 l)):Int))]) [])))
 | _=>.fail
def DH(args:List PV):Tr:=Na (F2 [[2]] args)
def Rw:List PV->Tr
 | [.s (.sl true true 0 []),.s (.str q)]=>.ret (.tup [.s (.sl true true 0 []),.s (.bool false)]) []
 | _=>.fail
def PP(args:List PV):Tr:=Rw (F2 [[0],[0]] args)
def Rv:List PV->Tr
 | [.s (.sl true true 0 []),.agg [.s (.str h),.s (.bool b)]]=>.need (A7 (o3 h)) (.split (K5 h) (.ret (.tup [.bad,.s (.int .i64 (0:Int))]) []) (.ret (.tup [.s (.sl true true 0 []),.s (.int .i64 (14:Int))]) []))
 | _=>.fail
def Zj(args:List PV):Tr:=Rv (F2 [[0],[0,0]] args)
def Zr:List PV->Tr
 | [.s (.nilp),.s (.str q)]=>.ret (.tup [.agg [.s (.str ([]:List UInt8)),.s (.bool false)],.s (.bool false)]) []
 | _=>.fail
def JA(args:List PV):Tr:=Zr (F2 [[0],[0]] args)
def Zs:List PV->Tr
 | [.s (.nilp),.agg [.s (.str h),.s (.bool b)]]=>.need (A7 (o3 h)) (.split (K5 h) (.ret (.s (.int .i64 (3:Int))) []) (.ret (.s (.int .i64 (14:Int))) []))
 | _=>.fail
def JB(args:List PV):Tr:=Zs (F2 [[0],[0,0]] args)
def Zv:List PV->Tr
 | [.s (.nilp),.s (.str q)]=>.ret (.s (.bool false)) []
 | _=>.fail
def JE(args:List PV):Tr:=Zv (F2 [[0],[0]] args)
def Zt:List PV->Tr
 | [.s (.nilp)]=>.ret (.s (.int .i64 (0:Int))) []
 | _=>.fail
def JC(args:List PV):Tr:=Zt (F2 [[0]] args)
def Zu:List PV->Tr
 | [.s (.nilp)]=>.ret (.s (.int .i64 (0:Int))) []
 | _=>.fail
def JD(args:List PV):Tr:=Zu (F2 [[0]] args)
def Zq:List PV->Tr
 | [.s (.nilp)]=>.ret (.s (.sl true true 2 [])) []
 | _=>.fail
def IZ(args:List PV):Tr:=Zq (F2 [[0]] args)
def Jd:List PV->Tr
 | []=>.ret (.s (.bool true)) []
 | _=>.fail
def Mt(args:List PV):Tr:=Jd (F2 [] args)
end
section
variable {W R : Type} (L : Nat) (Y : C9) (Q : Yh W) (s : W) (k : Out -> St W -> Option R)
noncomputable abbrev PZ:Code:=F6 aj7
noncomputable def Es(L:Nat):Cfg:=D1 L [14] (A5 [(2,[0,0,2,0,0])]) []
 (A5 [(6,[4,0]),(3,[0,0,4]),(5,[4,0]),(4,[0,0,4,12]),(2,[0,0,4,3]),(1,[0,0,4]),(0,[0,0])]) [] (A5 [(0,[0]),(1,[0,0,4])]) (some [4,0]) [] [] []
noncomputable def Hf{R:Type}(L n:Nat)(a:By)(b:Unit->Option R):Option R:=match n with
 | 0=>none
 | n+1=>
  b ()
theorem HJ(n name0):E2 0 ((Es L).keep 2) (bd (Es L) Y Q (cd [1,0,1,0,0] PZ)) n ⟨gp [(0,.s (.sl true true 0 [])),(0,pS name0),(4,pI (0:Int))] 24,[],s⟩ k =
 Hf L n name0 (λ_=>k (.exit 0) ⟨gp [(0,.s (.sl true true 0 []))] 30,[],s⟩):=by
 induction n generalizing name0 with
 | zero=>rfl
 | succ n a=>rw[Hf];kernel_rfl
noncomputable def RE{R:Type}(L:Nat)(q:By)(a:Unit->Option R):Option R:=
 Hf L L q (λ_=>a ())
theorem YF(d:Nat)(q):evC (Es L) (d+1) W Q 14 [.s (.sl true true 0 []),pS q] [] s=RE L q (λ_=>some (.tup [.s (.sl true true 0 []),pB false],[],s)):=by refine(evE (fn:=aj7) (by kernel_rfl)).trans ?_;generalize evC (Es L) d=Y;unfold RE;exact(b8 (by kernel_rfl) ((HJ L Y Q s (H4 0 (I1 (Es L) Y Q (cd [1,1] PZ) (K6 (Es L) aj7))) L q).trans (by kernel_rfl)))
noncomputable def AK(L:Nat):Cfg:=D1 L [5] (A5 []) [(13,IW),(14,PP),(15,DH)]
 (A5 [(6,[4,0]),(5,[4,0]),(4,[0,2,2,19]),(3,[0,2,2,0]),(2,[4,0]),(1,[0,2,7]),(0,[0,2])]) [13] (A5 []) (some [4,0]) [] [] [] (rw:=[(6,4)]) (fr:=[(6,[2,3],[])])
noncomputable def RC{R:Type}(L:Nat)(h:By)(b:Bool)(c:By->Bool->Option R)(d:Int->By->Bool->Option R):Option R:=
 cond (A7 h.length)
 (cond (not (K5 h))
  (c h b)
  (cond (u0 [[(SV.str h),(SV.bool b)]] La)
  (cond (u0 [[(SV.str h),(SV.bool b)]] smE)
   (vl (↑(Ua (s7 S9 [[(SV.str h),(SV.bool b)]])):Int) λa=>
   d a h b)
   none)
  none))
 none
theorem HG(d:Nat)(h b):evC (AK L) (d+1) W Q 5 [.s (.sl true true 0 []),.agg [pS h,pB b]] [] s=RC L h b (λf a=>some (.tup [.s (.sl true true 0 []),pI (14:Int)],[.box [pS f,pB a]],s)) (λe g c=>some (.tup [.bad,pI e],[.box [pS g,pB c]],s)):=by refine(evE (fn:=Tryz.f5) (by kernel_rfl)).trans ?_;generalize evC (AK L) d=Y;unfold RC;kernel_rfl
noncomputable abbrev RD(h:By)(b:Bool):Option (PV × List Blk × Unit):=RC LF h b (λe a=>some (.tup [.s (.sl true true 0 []),pI (14:Int)],[.box [pS e,pB a]],())) (λd f c=>some (.tup [.bad,pI d],[.box [pS f,pB c]],()))
noncomputable def JU(L:Nat):Cfg:=D1 L [6] (A5 []) []
 (A5 [(12,[4,0]),(11,[3,0,1,0,0]),(10,[3,0,1,0,0,42]),(9,[3,0,1,0,0,22]),(8,[3,0,1,0,0]),(7,[3,0,1,0,0,0]),(6,[3,0,1,0,0,13]),(5,[3,0,1,0,0]),(4,[0,2,0,1,0]),(3,[0,2,0,1]),(2,[4,0]),(1,[0,2,0,11]),(0,[0,2,0])]) [] (A5 [(0,[4,1,0]),(1,[3,0,1,0,0])]) (some [4,0]) [] [] [] (fr:=[(12,[1,2],[])])
noncomputable def Ap6{R:Type}(L:Nat)(q:By)(a:By->Option R):Option R:=
 a q
theorem Ah0(d:Nat)(q):evC (JU L) (d+1) W Q 6 [.s (.nilp),pS q] [] s=Ap6 L q (λa=>some (.tup [.agg [pS ([]:List UInt8),pB false],pB false],[.box [pS a],.box [pS ([]:List UInt8),pB false]],s)):=by refine(evE (fn:=Tryz.f6) (by kernel_rfl)).trans ?_;generalize evC (JU L) d=Y;unfold Ap6;kernel_rfl
noncomputable def JV(L:Nat):Cfg:=D1 L [7] (A5 []) [(16,PG)]
 (A5 [(22,[4]),(21,[]),(20,[3,2]),(19,[2,0,2,74]),(18,[2,0,2]),(17,[2,0,2,1]),(16,[2,0,2,1]),(15,[2,0,2,0,0]),(14,[2,0,2,0]),(13,[2,0,2,0,48]),(12,[2,0,2,0,0,42]),(11,[2,0,2,0,0]),(10,[2,0,2,0]),(9,[2,0,2,35]),(8,[2,0,2]),(7,[4]),(6,[2,0,32]),(5,[2,0,1]),(2,[4]),(4,[4]),(3,[2,0,10]),(1,[2,0,5]),(0,[2,0])]) [16] (A5 [(1,[2,0,2]),(2,[2,0,2]),(0,[2,0])]) (some [4]) [] [] [] (fr:=[(21,[1,5],[])])
noncomputable def Ah2{R:Type}(L:Nat)(h:By)(b:Bool)(a:Int->By->Bool->Option R):Option R:=
 cond (A7 h.length)
 (cond (not (K5 h))
  (a 14 h b)
  (a 3 h b))
 none
theorem RG(d:Nat)(h b):evC (JV L) (d+1) W Q 7 [.s (.nilp),.agg [pS h,pB b]] [] s=Ah2 L h b (λc e a=>some (pI c,[.box [.s (.nilp)],.box [pS e,pB a]],s)):=by refine(evE (fn:=Tryz.f7) (by kernel_rfl)).trans ?_;generalize evC (JV L) d=Y;unfold Ah2;kernel_rfl
noncomputable abbrev YS(h:By)(b:Bool):Option (PV × List Blk × Unit):=Ah2 LF h b (λc d a=>some (pI c,[.box [.s (.nilp)],.box [pS d,pB a]],()))
noncomputable def JY(L:Nat):Cfg:=D1 L [8] (A5 []) []
 (A5 [(9,[4]),(8,[]),(7,[0,0]),(6,[0,0]),(5,[4]),(4,[0,0,3,18]),(3,[0,0,3]),(2,[4]),(1,[0,0,10]),(0,[0,0])]) [] (A5 []) (some [4]) [] [] []
noncomputable def Ap9{R:Type}(L:Nat)(q:By)(a:Unit->Option R):Option R:=
 a ()
theorem Ah5(d:Nat)(q):evC (JY L) (d+1) W Q 8 [.s (.nilp),pS q] [] s=Ap9 L q (λ_=>some (pB false,[],s)):=by refine(evE (fn:=Tryz.f8) (by kernel_rfl)).trans ?_;generalize evC (JY L) d=Y;unfold Ap9;kernel_rfl
noncomputable def JW(L:Nat):Cfg:=D1 L [9] (A5 []) []
 (A5 [(3,[2]),(2,[2]),(1,[0,3]),(0,[0])]) [] (A5 []) (some [2]) [] [] []
noncomputable def Ap7{R:Type}(L:Nat)(a:Unit->Option R):Option R:=
 a ()
theorem Ah3(d:Nat):evC (JW L) (d+1) W Q 9 [.s (.nilp)] [] s=Ap7 L  (λ_=>some (pI (0:Int),[],s)):=by refine(evE (fn:=Tryz.f9) (by kernel_rfl)).trans ?_;generalize evC (JW L) d=Y;unfold Ap7;kernel_rfl
noncomputable def JX(L:Nat):Cfg:=D1 L [10] (A5 []) []
 (A5 [(3,[2]),(2,[2]),(1,[0,3]),(0,[0])]) [] (A5 []) (some [2]) [] [] []
noncomputable def Ap8{R:Type}(L:Nat)(a:Unit->Option R):Option R:=
 a ()
theorem Ah4(d:Nat):evC (JX L) (d+1) W Q 10 [.s (.nilp)] [] s=Ap8 L  (λ_=>some (pI (0:Int),[],s)):=by refine(evE (fn:=Tryz.f10) (by kernel_rfl)).trans ?_;generalize evC (JX L) d=Y;unfold Ap8;kernel_rfl
end
section
variable {σ R : Type} (L : Nat) (Y : C9) (Q : Yh σ) (s : σ) (k : Out -> St σ -> Option R)
noncomputable def DW(L:Nat):Cfg:=D1 L [3] (A5 []) [(4,Mt),(5,Zj),(6,JA),(7,JB),(8,JE),(9,JC),(10,JD),(11,IZ)]
 (A5 [(9,[2]),(8,[1,1,2,0,0]),(7,[1,1,2]),(6,[1,1,2,14]),(5,[1,1,1,0]),(4,[1,1,1]),(3,[1,1]),(2,[2]),(1,[1,10]),(0,[1])]) [4,7,8,9,10] (A5 []) (some [2]) [] [] []
noncomputable def ltn{R:Type}(L:Nat)(a:By)(c:Bool)(b:Bool->(List Blk)->Option R):Option R:=
 cond (ltI 400 (a.length:Int))
 (b true [(Blk.box [(PV.s (SV.str a)),(PV.s (SV.bool c))])])
 (cond (A7 a.length)
  (cond (K5 a)
  (cond (A7 a.length)
   (cond (K5 a)
   (b true [(Blk.box [(PV.s (SV.str a)),(PV.s (SV.bool c))]),(Blk.box [(PV.s (SV.str ([]:List UInt8))),(PV.s (SV.bool false))])])
   (b false [(Blk.box [(PV.s (SV.str a)),(PV.s (SV.bool c))]),(Blk.box [(PV.s (SV.str ([]:List UInt8))),(PV.s (SV.bool false))])]))
   none)
  (cond (A7 a.length)
   (cond (K5 a)
   (b false [(Blk.box [(PV.s (SV.str a)),(PV.s (SV.bool c))]),(Blk.box [(PV.s (SV.str ([]:List UInt8))),(PV.s (SV.bool false))])])
   (b true [(Blk.box [(PV.s (SV.str a)),(PV.s (SV.bool c))]),(Blk.box [(PV.s (SV.str ([]:List UInt8))),(PV.s (SV.bool false))])]))
   none))
  none)
theorem Ao1(d:Nat)(x0 x1):evC (DW L) (d+1) σ Q 3 [.agg [pS x0,pB x1]] [] s=ltn L x0 x1 (λb a=>some (pB b,a,s)):=by refine(evE (fn:=Tryz.f3) (by kernel_rfl)).trans ?_;generalize evC (DW L) d=Y;unfold ltn;kernel_rfl
end
section
theorem UZ:B7 b9 GX 104 Hn:=λargs ret a h=>by
 have:F5 (Hn args)=none:=by unfold Hn Rd;split<;>rfl
 rw[this] at h;cases h
theorem ZG:B7 b9 GX 91 IR:=xf [] (JP LF) Yu rfl trivial rfl (by kernel_rfl) follows λargs=>by
 unfold Yu;split
 ·rename_i s p;exact λa=>⟨rfl,rfl,rfl,_,_,(Ac5 LF noY () 0 s p).trans (SX s p a),rfl⟩
 ·trivial
theorem Aq7:B7 b9 GX 64 VG:=xf [] (JO LF) Yt rfl ⟨ZG,trivial⟩ rfl (by kernel_rfl) follows λargs=>by
 unfold Yt;split
 ·rename_i s p;exact λa=>⟨rfl,rfl,rfl,_,_,(Ab9 LF noY () 0 s p).trans (SM s p a),rfl⟩
 ·trivial
theorem Ai6:B7 b9 GX 68 PH:=xf [0,0] (AF LF) Rf rfl ⟨ZG,trivial⟩ rfl (by kernel_rfl) follows λargs=>by
 unfold Rf;split
 ·rename_i s p;exact λa=>⟨rfl,rfl,rfl,_,_,(WX LF noY () 0 s p).trans (LA s p a),rfl⟩
 ·trivial
theorem Aq6:B7 b9 GX 50 VF:=xf [0,0] (JM LF) Yp rfl ⟨Ai6,trivial⟩ rfl (by kernel_rfl) follows λargs=>by
 unfold Yp;split
 ·rename_i s p;exact λa=>⟨rfl,rfl,rfl,_,_,(Aa3 LF noY () 0 s p).trans (RU s p a),rfl⟩
 ·trivial
theorem ZD:B7 b9 GX 90 DF:=xf [1] (Be LF) Mu rfl ⟨UZ,Ar7,ZM,trivial⟩ rfl (by kernel_rfl) follows λargs=>by
 unfold Mu;split
 ·rename_i s p v n;exact λb=>λc=>λd=>λe=>(let⟨h,f,a,g⟩:=EW s p v n b c d e;⟨rfl,rfl,rfl,h,f,(SK LF noY () 0 s p v n).trans a,g⟩)
 ·trivial
theorem ZN:B7 b9 GX 63 DJ:=xf [1] (Sn LF) Nf rfl ⟨ZD,trivial⟩ rfl (by kernel_rfl) follows λargs=>by
 unfold Nf;split
 ·rename_i s p;exact λa=>λb=>⟨rfl,rfl,rfl,_,_,(UL LF noY () 0 s p).trans (HV s p a b),rfl⟩
 ·trivial
theorem ZE:B7 b9 GX 46 IP:=xf [] (JN LF) Ys rfl ⟨Aq7,trivial⟩ rfl (by kernel_rfl) follows λargs=>by
 unfold Ys;split
 ·rename_i s;exact λa=>⟨rfl,rfl,rfl,_,_,(Ab8 LF noY () 0 s).trans (SL s a),rfl⟩
 ·trivial
theorem ZC:B7 b9 GX 48 IO:=xf [0,0] (N8 LF) Yq rfl trivial rfl (by kernel_rfl) follows λargs=>by
 unfold Yq;split
 ·rename_i s base;exact λa=>λb=>⟨rfl,rfl,rfl,_,_,(Aa8 LF noY () 0 s base).trans (RY s base a b),rfl⟩
 ·trivial
theorem Av9:B7 b9 GX 47 Ak3:=xf [0,0] (VY LF) IT rfl ⟨ZE,ZC,trivial⟩ rfl (by kernel_rfl) follows λargs=>by
 unfold IT;split
 ·rename_i s;exact λa=>⟨rfl,rfl,rfl,_,_,(Ao2 LF noY () 0 s).trans (XI s a),rfl⟩
 ·trivial
theorem Ai9:B7 b9 GX 45 PJ:=xf [1] (AH LF) Rj rfl ⟨ZN,trivial⟩ rfl (by kernel_rfl) follows λargs=>by
 unfold Rj;split
 ·rename_i s;exact λa=>⟨rfl,rfl,rfl,_,_,(XL LF noY () 0 s).trans (MA s a),rfl⟩
 ·trivial
theorem VA:B7 b9 GX 27 Mw:=xf [] (Nq LF) Je rfl ⟨Ai9,ZE,Av9,ZC,trivial⟩ rfl (by kernel_rfl) follows λargs=>by
 unfold Je;split
 ·rename_i s;exact λa=>⟨rfl,rfl,rfl,_,_,(LV LF noY () 0 s).trans (BI s a),rfl⟩
 ·trivial
theorem VB:B7 b9 GX 42 Wf:=xf [] (W5 LF) Jf rfl trivial rfl (by kernel_rfl) follows λargs=>by
 unfold Jf;split
 ·rename_i s;exact λa=>⟨rfl,rfl,rfl,_,_,(MW LF noY () 0 s).trans (CA s a),rfl⟩
 ·trivial
theorem Vh:B7 b9 GX 24 Kg:=xf [1] (Bg LF) Nd rfl trivial rfl (by kernel_rfl) follows λargs=>by
 unfold Nd;split
 ·rename_i s c;exact λb=>λd=>(let⟨g,e,a,f⟩:=HD s c b d;⟨rfl,rfl,rfl,g,e,(UD LF noY () 0 s c).trans a,f⟩)
 ·trivial
theorem Ar3:B7 b9 GX 60 VJ:=xf [] (Db LF) Zd rfl trivial rfl (by kernel_rfl) follows λargs=>by
 unfold Zd;split
 ·rename_i b;exact λa=>⟨rfl,rfl,rfl,_,_,(Ae9 LF noY () 0 b).trans (TS b a),rfl⟩
 ·trivial
theorem Ar5:B7 b9 GX 43 VL:=xf [0,0] (J4 LF) Zh rfl ⟨Ar3,trivial⟩ rfl (by kernel_rfl) follows λargs=>by
 unfold Zh;split
 ·rename_i s;exact λa=>⟨rfl,rfl,rfl,_,_,(Af7 LF noY () 0 s).trans (TY s a),rfl⟩
 ·trivial
theorem ZK:B7 b9 GX 41 DI:=xf [1] (Sl LF) Nb rfl ⟨Vh,trivial⟩ rfl (by kernel_rfl) follows λargs=>by
 unfold Nb;split
 ·rename_i s;exact λa=>⟨rfl,rfl,rfl,_,_,(UB LF noY () 0 s).trans (GQ s a),rfl⟩
 ·trivial
theorem OZ:B7 b9 GX 23 Rp:=xf [] (Jo LF) Gg rfl ⟨ZK,VB,Ar5,trivial⟩ rfl (by kernel_rfl) follows λargs=>by
 unfold Gg;split
 ·rename_i s;exact λa=>⟨rfl,rfl,rfl,_,_,(GP LF noY () 0 s).trans (Vy s a),rfl⟩
 ·trivial
end
section
theorem IL:B7 b9 GX 95 Ge:=xf [] (Sk LF) My rfl trivial rfl (by kernel_rfl) follows λargs=>by
 unfold My;split
 ·rename_i n;exact⟨rfl,rfl,rfl,_,_,(TM LF noY () 0 n).trans (FW n ),rfl⟩
 ·trivial
theorem IK:B7 b9 GX 97 Gd:=xf [] (O4 LF) Mx rfl trivial rfl (by kernel_rfl) follows λargs=>by
 unfold Mx;split
 ·rename_i d c f;exact λa=>λb=>λe=>⟨rfl,rfl,rfl,_,_,(TE LF noY () 0 d c f).trans (FT d c f a b e),rfl⟩
 ·trivial
theorem Ar0:B7 b9 GX 113 IU:=xf [] (JQ LF) Yz rfl trivial rfl (by kernel_rfl) follows λargs=>by
 unfold Yz;split
 ·rename_i d;exact λa=>⟨rfl,rfl,rfl,_,_,(Ad9 LF noY () 0 d).trans (TL d a),rfl⟩
 ·trivial
theorem Ar2:B7 b9 GX 128 IV:=xf [] (Da LF) Zc rfl trivial rfl (by kernel_rfl) follows λargs=>by
 unfold Zc;split
 ·rename_i b;exact λa=>⟨rfl,rfl,rfl,_,_,(Ae7 LF noY () 0 b).trans (TO b a),rfl⟩
 ·trivial
end
section
theorem ZH:B7 b9 GX 112 Rk:=by
 refine B7.fix (pf:=Zb) _ (Fq (C₀:=JR LF) (L7.ok (l:=[]) rfl trivial) (J0 rfl (by kernel_rfl)) follows ?_);intro args ret a h;unfold Zb at h;split at h
 ·rename_i b;obtain⟨rfl,rfl⟩:=N0 h;have e:=(Ae3 LF noY () 0 b).trans (TN b );exact⟨rfl,1,_,[],e,rfl,rfl⟩
 ·cases h
theorem RL:Ir b9 GX 131 Ho:=by
 refine Ar (C₀:=AI LF) (L7.ok (l:=[]) rfl trivial) (J0 rfl (by kernel_rfl)) follows ?_;intro args H ret f h;unfold Ho at h;split at h
 ·rename_i k b;obtain⟨a,h⟩:=G5 h;obtain⟨c,h⟩:=G5 h;obtain⟨rfl,rfl⟩:=N0 h;refine⟨rfl,rfl,λg d s=>?_⟩;have e:=(XN LF d s 0 k b).trans (ML k b a c);exact⟨1,_,e,rfl⟩
 ·cases h
theorem As7:Ir b9 GX 96 Yx:=by
 refine Ar (C₀:=Nr LF) (Kc (lx:=[(112,Rk),(113,IU)]) (ly:=[(131,Ho)]) (ls:=[]) rfl rfl rfl ⟨ZH,Ar0,trivial⟩ ⟨RL,trivial⟩ trivial) (J0 rfl (by kernel_rfl)) follows ?_;intro args H ret g h;unfold Yx at h;split at h
 ·rename_i q b z l;obtain⟨c,h⟩:=G5 h;obtain⟨d,h⟩:=G5 h;obtain⟨e,h⟩:=G5 h;obtain⟨rfl,rfl⟩:=N0 h;obtain⟨i,j,a⟩:=TG q b z l c d e;exact⟨rfl,rfl,λk f s=>⟨1,_,(Ad5 LF f s 0 q b z l).trans (a _ _),rfl⟩⟩
 ·cases h
theorem Ar1:B7 b9 GX 70 VI:=by
 refine B7.fix (pf:=Za) _ (Q6 [0,0] (C₀:=K4 LF) (Kc (lx:=[(95,Ge),(97,Gd)]) (ly:=[(96,Yx)]) (ls:=[]) rfl rfl rfl ⟨IL,IK,trivial⟩ ⟨As7,trivial⟩ trivial) (J0 rfl (by kernel_rfl)) follows ?_);intro args ret i h;unfold Za at h;split at h
 ·rename_i b a p;obtain⟨d,h⟩:=G5 h;obtain⟨rfl,rfl⟩:=N0 h;obtain⟨g,e,c,f⟩:=Ae2 b a p d;exact⟨rfl,rfl,rfl,1,g,e,(Ae0 LF noY () 0 b a p).trans c,f⟩
 ·cases h
end
section
theorem As6:Ir b9 GX 110 Yr:=by
 refine Ar (C₀:=Np LF) (Kc (lx:=[(112,Rk),(128,IV)]) (ly:=[(131,Ho)]) (ls:=[]) rfl rfl rfl ⟨ZH,Ar2,trivial⟩ ⟨RL,trivial⟩ trivial) (J0 rfl (by kernel_rfl)) follows ?_;intro args H ret k h;unfold Yr at h;split at h
 ·rename_i a n i b c z l;obtain⟨e,h⟩:=G5 h;obtain⟨f,h⟩:=G5 h;obtain⟨g,h⟩:=G5 h;obtain⟨rfl,rfl⟩:=N0 h;obtain⟨m,d⟩:=SC a n i b c z l e f g;exact⟨rfl,rfl,λo j s=>⟨1,_,(Aa9 LF j s 0 a n i b c z l).trans (d _ _),rfl⟩⟩
 ·cases h
theorem ZF:B7 b9 GX 52 DG:=xf [] (Bf LF) Mv rfl trivial rfl (by kernel_rfl) follows λargs=>by
 unfold Mv;split
 ·rename_i s c;exact λa=>λb=>⟨rfl,rfl,rfl,_,_,(SP LF noY () 0 s c).trans (FE s c a b),rfl⟩
 ·trivial
theorem CU:B7 b9 GX 31 Ei:=xf [] (AE LF) Re rfl ⟨ZF,trivial⟩ rfl (by kernel_rfl) follows λargs=>by
 unfold Re;split
 ·rename_i s c;exact λa=>λb=>⟨rfl,rfl,rfl,_,_,(WW LF noY () 0 s c).trans (KY s c a b),rfl⟩
 ·trivial
end
end
section
open Go Go.Proofs Go.Sort
set_option maxRecDepth 100000
theorem Va{C:Cfg}{W:Type}{I:W->(Nat->Prop)->(Nat->Prop)->World->Prop}(J:HI I){f:Ctx}{u:Nat->Prop}{w w':World}{z v1:Bool}{E o r:Nat}{l l' m:LL}{s:W}(g cap:Nat)(H:List Value)(i:Array Value)
  (P:Et C E=false) (j:HR f [.arr z E 1 l,.arr v1 o r m] w) (K:I s f.St u w) (M:∀b g,f.nm b=some g->¬u g)
  (d:f.nm 0=some g\/g=w.heap.size) (O:g<w'.heap.size) (e:∀k,k<w.heap.size->f.nm 0≠some k->w'.heap[k]? = w.heap[k]?) (p:w.heap.size<=w'.heap.size) (R:w'.os=w.os) (S:w'.tape=w.tape) (T:w'.output=w.output)
  (n:w'.heap[g]? = some (.cells i E (0,0))) (Y:Els f.St w' 1 l' H) (D:l'≠[]) (t:∀q,q<H.length->i[q]? = H[q]?) (Z:H.length<=i.size) (B:l'.length<=cap) (hm:cap<=maxLen) (L:i.size=cap) :
  T7 C I f [.arr z E 1 l,.arr v1 o r m] w u (.fl 0) [.arr z E 1 l',.arr v1 o r m] s (.slice (some ⟨g,0,none⟩) l'.length cap) w':=by
 have x:0<[Blk.arr z E 1 l,.arr v1 o r m].length:=by simp
 have G:(f.re 0 (some g)).nm 0=some g:=by simp[Ctx.re]
 have F:¬Dg C (A0 [Blk.arr z E 1 l,.arr v1 o r m] 0):=by simp[A0,Blk.shp,Dg,P]
 have a:([Blk.arr z E 1 l,.arr v1 o r m].map (Blk.kill 0)).set 0 (.arr z E 1 l')=[.arr z E 1 l',.arr v1 o r m]:=rfl;have N:¬f.St g:=by
  rcases d with h|h
  ·exact(j.lt 0 g h).2.2
  ·intro hs;have:=j.stlt g hs;omega
 obtain⟨U,V,q3⟩:=CC (C:=C) (y:=.arr z E 1 l') (ng:=some g) (w':=w') j x F (λk a=>by
   simp only[o7] at a;subst a;refine⟨O,N,λc t A=>?_⟩;rcases d with h|h
   ·exact t (j.inj c 0 _ A h)
   ·have:=(j.lt c _ A).2.1;omega)
  (λk a=>by
   simp only[o7] at a;subst a;rcases d with h|h
   ·exact .inl h
   ·exact .inr (by omega)) e p R S T
  (BR.els G n Y (by rintro⟨_,h⟩;exact D h) t Z) rfl
 rw[a] at U V;refine⟨_,u,U.lift u,V,?_,λc t=>?_,?_,λb X v=>?_⟩
 ·refine .fl 0 g z E 1 l'.length cap rfl (λ_ h=>D (p5.1 h)) G B hm ?_;simp only[ac6,n,L,u7]
 ·simp only[PV.nms,List.mem_singleton] at t;subst t;simp
 ·refine J.mono s f.St u w f.St w' K (λ_ h=>h) (λk a Q=>(J.foot _ _ _ _ K k Q).2 a) (λk a=>Nat.lt_of_lt_of_le (j.stlt k a) p) (λk a=>?_) p R S T;rcases a with a|a
  ·exact e k (j.stlt k a) (λh=>(j.lt 0 k h).2.2 a)
  ·exact e k (J.foot _ _ _ _ K k a).1 (λh=>M 0 k h a)
 ·simp only[Ctx.re] at v;split at v
  ·simp only[o7] at v;subst v;rcases d with h|h
   ·exact M 0 _ h
   ·intro Q;have:=(J.foot _ _ _ _ K _ Q).1;omega
  ·exact M b X v
theorem V2{w:World}{g o e:Nat}{vs:List Value}{a:Array Value}(c:w.heap[g]? = some (.cells a e (0,0)))(f:o+vs.length<=a.size)(l:∀v∈vs,v.oneCell'=true) :
  (w.setCells g o vs).heap[g]? = some (.cells (E3 a.toList o vs).toArray e (0,0))/\(∀k,k≠g->(w.setCells g o vs).heap[k]? = w.heap[k]?)/\(w.setCells g o vs).heap.size=w.heap.size/\(w.setCells g o vs).os=w.os/\(w.setCells g o vs).tape=w.tape/\(w.setCells g o vs).output=w.output:=by
 obtain⟨w',i,m,n,p,q,t,u,_⟩:=G1 (P:=b9) (o:=o) c f l;have b:∀j,j<vs.length->∃v,w.cell? ⟨g,o+0+j,none⟩=some v:=λj d=>by
  refine⟨a[o+j]'(by omega),?_⟩;simp[ad4,c,aa9 (show o+j<a.size by omega)]
 have r:=run_storeCells_cells (P:=b9) g o vs 0 w (λj d=>by obtain⟨v,h⟩:=b j d;rw[h];rfl) (λj d=>by simp[ab5,c]) l;rw[r] at i;simp only[ai3,Result.ok.injEq,true_and] at i;rw[i];exact⟨m,n,p,q,t,u⟩
theorem Tk{St:Nat->Prop}{w:World}{l:LL}{d:List Value}{i:Nat}{n:Int}(h:Els St w 1 l d)(q:i<=l.length):Els St w 1 (Ex l i n) (d.take i++j8 .i64 n::d.drop i):=by
 have c:=h.1;rw[u7] at c;have m:Els St w 1 (l.take i) (d.take i):=by
  refine⟨by rw[c9,c9,c,u7],λj f=>?_⟩;rw[c9] at f;rw[List.getElem_take];obtain⟨a,b⟩:=h.2 j (by omega);refine⟨a,λk g=>?_⟩;obtain⟨U,e,v⟩:=b k g;exact⟨U,by rw[p4 (by omega)];exact e,v⟩
 have o:Els St w 1 [[SV.int .i64 n]] [j8 .i64 n]:=by
  refine⟨rfl,λj f=>?_⟩;have:j=0:=by simpa using f
  subst this;refine⟨rfl,λk g=>?_⟩;have:k=0:=by simpa using g
  subst this;exact⟨_,rfl,.int _ _⟩
 have p:Els St w 1 (l.drop i) (d.drop i):=by
  refine⟨by rw[j0,j0,c,u7],λj f=>?_⟩;rw[j0] at f;rw[List.getElem_drop];obtain⟨a,b⟩:=h.2 (i+j) (by omega);refine⟨a,λk g=>?_⟩;obtain⟨U,e,v⟩:=b k g;exact⟨U,by rw[List.getElem?_drop];rw[show i+(j*1+k)=(i+j)*1+k by omega];exact e,v⟩
 have:=(m.append o).append p;unfold Ex;simpa using this
theorem Tl(l:LL)(i:Nat)(n:Int)(h:i<=l.length):(Ex l i n).length=l.length+1:=by unfold Ex;rw[j2,o5,c9,j0];omega
theorem AX(l:LL)(i:Nat)(n:Int):Ex l i n≠[]:=by unfold Ex;simp
theorem As8:Ir b9 GX 111 Zo:=by
 intro C hP hG σ I yh yv hI hy args H s ret Hc G Γ Φ w Vs g2 hH hg hi hd hc hn;unfold Zo at G;split at G
 ·rename_i i z l d;obtain⟨h0,G⟩:=G5 G;obtain⟨h1,G⟩:=G5 G;obtain⟨rfl,rfl⟩:=N0 G;obtain⟨i0,i1⟩:=J7.1 h0;obtain⟨i,rfl⟩:=o0 i0;have hl:=y9 h1;have X:i<=l.length:=by
   have:(i:Int)<((l.length+1:Nat):Int):=i1;omega
  obtain⟨S,X0,V,rfl,hs,hx,hv⟩:=hc.arr3;obtain rfl:=hx.inv_int;have c7:Et C 3=false:=by
   unfold Et Cfg.sh;rw[hP];kernel_rfl
  obtain⟨g1,d7,n1,n2,n3,n4,n5⟩:=hH.arr' (b:=1) rfl (by simp);have f5:∃cap,V = .slice (some ⟨g1,0,none⟩) 1 cap:=by
   cases hv with
   | flv _ e sz h=>simp[A0,Blk.shp] at h
   | fl _ g v e sz n cap h e8 y R hm e6=>
    rw[n1] at y;simp only[o7] at y;subst y;simp only[A0,x9,u6,ac7,Blk.shp,o7,Shp.arr.injEq] at h;obtain⟨_,_,_,h4⟩:=h;subst h4;exact⟨cap,rfl⟩
  obtain⟨A,rfl⟩:=f5;obtain⟨V1,p1,p2⟩:=n5 0 (by simp) 0 (by simp);have p3:V1 = .int .i64 d:=by cases p2;rfl
  subst p3;have t:∀j v,[j8 .i64 d][j]? = some v->w.cell? ⟨g1,0+j,none⟩=some v:=by
   intro j v x;have:j=0:=by
    have:=(ab1.1 x).1;simpa using this
   subst this;simp only[u6,o7] at x;subst x;simpa[ad4,n2] using p1
  have M:∀v∈[j8 .i64 d],v.oneCell'=true:=by simp[Value.oneCell']
  rw[a7];refine Y5 (fn:=Tryz.f111) (by kernel_rfl) (by kernel_rfl) (by kernel_rfl) ?_;have B:∀(base:Option Addr) (c:Nat) (f:List Value),l.length<=c->c<l.length+1->f.length=l.length->(base=none->l.length=0)->(∀a,base=some a->∀j v,f[j]? = some v->w.cell? (a.add j)=some v)->Els Γ.St w 1 l f->
    Calls b9 111 #[.slice base l.length c,.int .i64 (l.length:Int),.slice (some ⟨g1,0,none⟩) 1 A] w λe w'=>∃V,e = .returned V/\T7 C I Γ [.arr z 3 1 l,.arr false 3 1 [[SV.int .i64 d]]] w Φ (.fl 0) [.arr z 3 1 (Ex l l.length d),.arr false 3 1 [[SV.int .i64 d]]] s V w':=by
   intro base c f a1 a2 a3 a4 a5 a6;refine(Any2.slices_Insert_int_end_grow Tryz.lays2_21 base l.length c g1 0 1 A f [.int .i64 d] w (by omega) a1 a2 (by omega) a3 rfl a4 a5 t M).mono ?_;rintro e w' ⟨rfl,rfl⟩;refine⟨_,rfl,?_⟩;obtain⟨T,c0⟩:=Cl (w:=w) (need:=l.length+1) (cap:=c) (e:=3) (by omega);have hE:=Tk (n:=d) a6 (y5 l.length);have d9:f.take l.length++j8 .i64 d::f.drop l.length=f++[j8 .i64 d]:=by
    rw[y8 (by omega),b7 (by omega)]
   rw[d9] at hE;have r:=Tl l l.length d (y5 _);obtain⟨r1,r2⟩:=Od (olds:=f) (Vs:=[j8 .i64 d]) (z:=(j8 .i64 0).cells) (k:=grownCap w (l.length+1) c 3) (n:=l.length) (m:=1) (size:=1) rfl (by omega) rfl T;have c8:(f.toArray++[j8 .i64 d].toArray)=(f++[j8 .i64 d]).toArray:=by simp
   rw[c8] at r1 r2;have key:∀(row:Array Value) (O:Nat),row.size=O->(∀q,q<(f++[j8 .i64 d]).length->row[q]? = (f++[j8 .i64 d])[q]?)->l.length+1<=O->O<=maxLen->
     T7 C I Γ [.arr z 3 1 l,.arr false 3 1 [[SV.int .i64 d]]] w Φ (.fl 0) [.arr z 3 1 (Ex l l.length d),.arr false 3 1 [[SV.int .i64 d]]] s (.slice (some ⟨w.heap.size,0,none⟩) (l.length+1) O) (w.drew.alloc (.cells row 3)):=by
    intro row O b1 b2 b3 b4;have D:(w.drew.alloc (.cells row 3)).heap=w.heap.push (.cells row 3):=rfl;have:=Va (C:=C) (w':=w.drew.alloc (.cells row 3)) (l':=Ex l l.length d) hI w.heap.size O (f++[j8 .i64 d]) row c7 hH hi hd (.inr rfl) (by rw[D];simp) (λk N _=>C8 D N) (by rw[D];simp) rfl rfl rfl (C7 D) (hE.mono (λg hg=>C8 D (hH.stlt g hg)) (λ_ h=>h)) (AX _ _ _) b2 (by rw[b1,j2,h9];omega) (by rw[r];exact b3) b4 b1;rw[r] at this;exact this
   exact key _ _ (r1.trans (u7 _)) r2 T c0
  have f9:∀(row:Array Value) (f:List Value),f.length=l.length->i<l.length->l.length+1<=row.size->(∀q,q<i->row[q]? = f[q]?)->
    ∀q,q<(f.take i++j8 .i64 d::f.drop i).length->(E3 (E3 row.toList i [j8 .i64 d]) (i+1) (f.drop i)).toArray[q]? = (f.take i++j8 .i64 d::f.drop i)[q]?:=by
   intro row f a1 a2 a3 a4 q hq;have f3:q<l.length+1:=by
    rw[j2,o5,c9,j0] at hq;omega
   have ht:(f.take i).length=i:=by rw[c9];omega
   have Y:row.toList.length=row.size:=u4;simp only[w5];rw[H9 _ _ _ (by rw[B8,j0,Y];omega),H9 _ _ _ (by rw[h9,Y];omega)];by_cases h1:q<i
   ·rw[V8,V8,x3 (by omega),p4 h1];simpa using a4 q h1
   ·by_cases h2:q=i
    ·subst h2;rw[V8,if_pos (by rw[h9];omega),p6 (by omega),ht,ai5];rfl
    ·rw[if_pos (by rw[j0];omega),p6 (by omega),ht,show q-i=(q-(i+1))+1 by omega,x9]
  have P:∀(g c:Nat) (f:List Value),i<l.length->l.length<=c->c<l.length+1->f.length=l.length->(∀j v,f[j]? = some v->w.cell? ⟨g,0+j,none⟩=some v)->(∀v∈f,v.oneCell'=true)->Els Γ.St w 1 l f->
    Calls b9 111 #[.slice (some ⟨g,0,none⟩) l.length c,.int .i64 (i:Int),.slice (some ⟨g1,0,none⟩) 1 A] w λe w'=>∃V,e = .returned V/\T7 C I Γ [.arr z 3 1 l,.arr false 3 1 [[SV.int .i64 d]]] w Φ (.fl 0) [.arr z 3 1 (Ex l i d),.arr false 3 1 [[SV.int .i64 d]]] s V w':=by
   intro g c f W a1 a2 a3 a4 a5 a6;refine(Any2.slices_Insert_int_grow Tryz.lays2_21 g 0 l.length c i g1 0 1 A f [.int .i64 d] w W (by omega) a1 a2 (by omega) a3 rfl a4 t a5 M).mono ?_;rintro e w' ⟨rfl,rfl⟩;refine⟨_,rfl,?_⟩;obtain⟨T,c0⟩:=Cl (w:=w) (need:=l.length+1) (cap:=c) (e:=3) (by omega);have hE:=Tk (n:=d) a6 X;have r:=Tl l i d X;have key:∀(row:Array Value) (O:Nat),row.size=O->(∀q,q<i->row[q]? = f[q]?)->l.length+1<=O->O<=maxLen->
     T7 C I Γ [.arr z 3 1 l,.arr false 3 1 [[SV.int .i64 d]]] w Φ (.fl 0) [.arr z 3 1 (Ex l i d),.arr false 3 1 [[SV.int .i64 d]]] s (.slice (some ⟨w.heap.size,0,none⟩) (l.length+1) O) (((w.alloc (.cells row 3)).drew.setCells w.heap.size i [j8 .i64 d]).drew.setCells w.heap.size (i+1) (f.drop i)):=by
    intro row O b1 b2 b3 b4;have D:(w.alloc (.cells row 3)).drew.heap=w.heap.push (.cells row 3):=rfl;obtain⟨c1,c2,c3,c4,c5,c6⟩:=V2 (w:=(w.alloc (.cells row 3)).drew) (o:=i) (vs:=[j8 .i64 d]) (C7 D) (by rw[h9];omega) M;generalize f6:(w.alloc (.cells row 3)).drew.setCells w.heap.size i [j8 .i64 d]=w1 at *;have Q:(E3 row.toList i [j8 .i64 d]).toArray.size=O:=by rw[o6,B8];simpa using b1
    obtain⟨d1,d2,d3,d4,d5,d6⟩:=V2 (w:=w1.drew) (o:=i+1) (vs:=f.drop i) c1 (by rw[Q,j0];omega) (λv hv=>a5 v (ad1 hv));have b0:∀k,k<w.heap.size->(w1.drew.setCells w.heap.size (i+1) (f.drop i)).heap[k]? = w.heap[k]?:=λk N=>by
     rw[d2 k (by omega)];exact(c2 k (by omega)).trans (C8 D N)
    have e7:(w1.drew.setCells w.heap.size (i+1) (f.drop i)).heap.size=w.heap.size+1:=by
     rw[d3];show w1.heap.size=_;rw[c3,D];simp
    have:=Va (C:=C) (w':=w1.drew.setCells w.heap.size (i+1) (f.drop i)) (l':=Ex l i d) hI w.heap.size O (f.take i++j8 .i64 d::f.drop i) _ c7 hH hi hd (.inr rfl) (by rw[e7];omega) (λk N _=>b0 k N) (by rw[e7];omega) (d4.trans c4) (d5.trans c5) (d6.trans c6) d1 (hE.mono (λg hg=>b0 g (hH.stlt g hg)) (λ_ h=>h)) (AX _ _ _) (f9 row f a3 W (by omega) b2) (by rw[o6,B8,j2,o5,c9,j0];simp only[o6,B8] at Q ⊢;omega) (by rw[r];exact b3) b4 (by rw[o6,B8];simpa using Q);rw[r] at this;exact this
   have f7:(j8 .i64 0).cells.size=1:=rfl;have ht:(f.take i).length=i:=by rw[c9];omega
   refine key _ _ ?_ (λq hq=>?_) T c0
   ·simp only[ad9,o6,size_zeroCells,f7,u7,ht];have:l.length+1<=grownCap w (l.length+1) c 3:=T;show i+(l.length+1-i)+(grownCap w (l.length+1) c 3-(l.length+1))=grownCap w (l.length+1) c 3;omega
   ·rw[aa6 (by simp only[ad9,o6,ht];omega),aa6 (by simp only[o6,ht];omega),w5,p4 hq]
  have e9:∀(row:Array Value) (f:List Value),f.length=l.length->i<l.length->l.length+1<=row.size->(∀q,q<i->row[q]? = f[q]?)->
    ∀q,q<(f.take i++j8 .i64 d::f.drop i).length->(E3 (E3 row.toList (i+1) (f.drop i)) i [j8 .i64 d]).toArray[q]? = (f.take i++j8 .i64 d::f.drop i)[q]?:=by
   intro row f a1 a2 a3 a4 q hq;have f3:q<l.length+1:=by
    rw[j2,o5,c9,j0] at hq;omega
   have ht:(f.take i).length=i:=by rw[c9];omega
   have Y:row.toList.length=row.size:=u4;simp only[w5];rw[H9 _ _ _ (by rw[B8,h9,Y];omega),H9 _ _ _ (by rw[j0,Y];omega)];by_cases h1:q<i
   ·rw[V8,V8,x3 (by omega),p4 h1];simpa using a4 q h1
   ·by_cases h2:q=i
    ·subst h2;rw[if_pos (by rw[h9];omega),p6 (by omega),ht,ai5];rfl
    ·rw[if_neg (by rw[h9];omega),if_pos (by rw[j0];omega),p6 (by omega),ht,show q-i=(q-(i+1))+1 by omega,x9]
  cases hs with
  | flv _ e2 f8 h'=>
   simp only[A0,u6,ac7,Blk.shp,o7,Shp.arr.injEq] at h';obtain⟨q1,q2,q3,h4⟩:=h';obtain rfl:=p5.1 h4;obtain rfl:i=0:=by simpa using X
   exact B none 0 [] (by simp) (by simp) rfl (λ_=>rfl) (λa h=>by cases h) ⟨rfl,λj x=>by simp at x⟩
  | fl _ g z' e2 f8 n' cap h' e8 y R hm e6=>
   simp only[A0,u6,ac7,Blk.shp,o7,Shp.arr.injEq] at h';obtain⟨rfl,rfl,rfl,rfl⟩:=h';have f2:¬(z=true/\l=[]):=by rintro⟨q1,q2⟩;exact e8 q1 (by rw[q2];rfl)
   obtain⟨g',p,e3,hh,d0,K,e0⟩:=hH.arr' (b:=0) rfl f2;obtain rfl:g=g':=by
    rw[y] at e3;exact ag4 e3
   have d8:p.size=cap:=by
    have:=e6;simp only[ac6,hh,o7,ah6,true_and,u7] at this;exact this
   rw[u7] at d0;have hO:Els Γ.St w 1 l (p.toList.take l.length):=by
    refine⟨by rw[c9,u4 (xs:=p)];omega,λj x=>⟨K j x,λk N=>?_⟩⟩;obtain⟨U,e1,u⟩:=e0 j x k N;refine⟨U,?_,u⟩;have g0:k<1:=by rw[<-K j x];exact N
    rw[x8,Th];simpa using e1
   have F:(p.toList.take l.length).length=l.length:=by rw[c9,u4 (xs:=p)];omega
   have J:∀j v,(p.toList.take l.length)[j]? = some v->w.cell? ⟨g,0+j,none⟩=some v:=by
    intro j v x;have a0:j<l.length:=by
     have:=(ab1.1 x).1;omega
    rw[x8,if_pos a0] at x;simpa[ad4,hh] using x
   have b5:∀v∈p.toList.take l.length,v.oneCell'=true:=by
    intro v hv;obtain⟨j,x,rfl⟩:=List.getElem_of_mem hv;have a0:j<l.length:=by omega
    obtain⟨_,u⟩:=hO.2 j a0;obtain⟨U,e1,u2⟩:=u 0 (by rw[K j a0];exact Nat.one_pos);rw[u7,ai3,s6 x] at e1;cases e1;exact u2.oneCell
   have r:=Tl l i d X;have hE:=Tk (n:=d) hO X;have Z:∀j,j<cap->(w.cell? ⟨g,j,none⟩).isSome=true:=by
    intro j x;simp only[ad4,hh];rw[aa9 (by omega)];rfl
   have a9:∀j,w.frozen? ⟨g,j,none⟩=false:=λj=>by simp[ab5,hh]
   have e5:g1≠g:=λe=>by
    have:=hH.inj 1 0 g (by rw[<-e];exact n1) y;omega
   have e4:cap<=9223372036854775807:=by
    simp only[maxLen] at hm;omega
   by_cases L:l.length+1<=cap
   ·have key:∀(w':World) (row:List Value),w'.heap[g]? = some (.cells row.toArray 3 (0,0))->(∀k,k≠g->w'.heap[k]? = w.heap[k]?)->w'.heap.size=w.heap.size->w'.os=w.os->w'.tape=w.tape->w'.output=w.output->row.length=cap->
      (∀q,q<((p.toList.take l.length).take i++j8 .i64 d::(p.toList.take l.length).drop i).length->row.toArray[q]? = ((p.toList.take l.length).take i++j8 .i64 d::(p.toList.take l.length).drop i)[q]?)->
      T7 C I Γ [.arr z 3 1 l,.arr false 3 1 [[SV.int .i64 d]]] w Φ (.fl 0) [.arr z 3 1 (Ex l i d),.arr false 3 1 [[SV.int .i64 d]]] s (.slice (some ⟨g,0,none⟩) (l.length+1) cap) w':=by
     intro w' row k1 k2 k3 k4 k5 k6 k7 k8;have f0:¬ Γ.St g:=(hH.lt 0 g y).2.2;have:=Va (C:=C) (w':=w') (l':=Ex l i d) hI g cap ((p.toList.take l.length).take i++j8 .i64 d::(p.toList.take l.length).drop i) row.toArray c7 hH hi hd (.inl y) (by rw[k3];exact(hH.lt 0 g y).2.1) (λk N f1=>k2 k (λe=>f1 (e▸y))) (by omega) k4 k5 k6 k1
      (hE.mono (λk N=>k2 k (λe=>f0 (e▸N))) (λ_ h=>h)) (AX _ _ _) k8
      (by rw[o6,k7,j2,o5,c9,j0,F];omega) (by rw[r];exact L) hm (by rw[o6,k7])
     rw[r] at this;exact this
    by_cases b6:i=l.length
    ·subst b6;refine(Any2.slices_Insert_int_end_room Tryz.lays2_21 g 0 l.length cap g1 0 1 A [.int .i64 d] w (by omega) L e4 rfl (λj x=>Z _ (by omega)) (λj x=>a9 _) t M).mono ?_;rintro e w' ⟨rfl,rfl⟩;refine⟨_,rfl,?_⟩;obtain⟨c1,c2,c3,c4,c5,c6⟩:=V2 (w:=w) (o:=0+l.length) (vs:=[j8 .i64 d]) hh (by rw[h9];omega) M;refine key _ _ c1 c2 c3 c4 c5 c6 (by rw[B8];simpa using d8) (λq hq=>?_);rw[y8 (by omega),b7 (by omega)] at hq ⊢;rw[j2,F,h9] at hq;simp only[w5];rw[H9 _ _ _ (by rw[h9,u4 (xs:=p)];omega)];by_cases f4:q<l.length
     ·rw[V8,x3 (by omega),x8,if_pos f4]
     ·obtain rfl:q=l.length:=by omega
      rw[if_pos (by rw[h9];omega),p6 (by omega),F];simp
    ·have W:i<l.length:=by omega
     refine(Any2.slices_Insert_int_shift Tryz.lays2_21 g 0 l.length cap i g1 0 1 A (p.toList.take l.length) [.int .i64 d] w W (by omega) L e4 e5 F rfl J (λj x=>Z _ (by omega)) (λj x=>a9 _) t b5 M 3 3 d7.size p.size (by simp[ac6,n2]) (by simp[ac6,hh]) (by omega) (by simp[ab5,n2]) (by simp[ab5,n2])).mono ?_;rintro e w' ⟨rfl,rfl⟩;refine⟨_,rfl,?_⟩;obtain⟨c1,c2,c3,c4,c5,c6⟩:=V2 (w:=w.drew) (o:=0+(i+1)) (vs:=(p.toList.take l.length).drop i) hh (by rw[j0,F];omega) (λv hv=>b5 v (ad1 hv));generalize f6:w.drew.setCells g (0+(i+1)) ((p.toList.take l.length).drop i)=w1 at *;have Q:(E3 p.toList (0+(i+1)) ((p.toList.take l.length).drop i)).toArray.size=cap:=by rw[o6,B8];simpa using d8
     obtain⟨d1,d2,d3,d4,d5,d6⟩:=V2 (w:=w1) (o:=0+i) (vs:=[j8 .i64 d]) c1 (by rw[Q,h9];omega) M;refine key _ _ d1 (λk N=>(d2 k N).trans (c2 k N)) (d3.trans c3) (d4.trans c4) (d5.trans c5) (d6.trans c6) (by rw[B8];simpa using Q) ?_;rw[ai7,ai7];exact e9 p _ F W (by omega) (λq hq=>by rw[x8,Th];simp)
   ·by_cases b6:i=l.length
    ·subst b6;exact B (some ⟨g,0,none⟩) cap (p.toList.take l.length) R (by omega) F (λh=>by cases h) (λa h j v x=>by
      obtain rfl:=ag4 h;rw[H3];exact J j v x) hO
    ·exact P g cap _ (by omega) R (by omega) F J b5 hO
 ·cases G
end
section
open Go Go.Proofs
set_option maxRecDepth 100000
section
theorem Aj8:Ir b9 GX 94 Ql:=by
 refine Ar (C₀:=AD LF) (Kc (lx:=[(97,Gd),(95,Ge)]) (ly:=[(110,Yr),(111,Zo)]) (ls:=[]) rfl rfl rfl ⟨IK,IL,trivial⟩ ⟨As6,As8,trivial⟩ trivial) (J0 rfl (by kernel_rfl)) follows ?_;intro args H ret o h;unfold Ql at h;split at h
 ·rename_i a n i b c z l;obtain⟨d,h⟩:=G5 h;obtain⟨f,h⟩:=G5 h;obtain⟨g,h⟩:=G5 h;obtain⟨j,h⟩:=G5 h;obtain⟨k,h⟩:=G5 h;obtain⟨rfl,rfl⟩:=N0 h;refine⟨rfl,rfl,λp m s=>?_⟩;have e:=(WJ LF m s 0 a n i b c z l).trans (KL a n i b c z l d f g j k);exact⟨1,_,e,rfl⟩
 ·cases h
theorem Aq9:B7 b9 GX 69 VH:=by
 refine B7.fix (pf:=Yy) _ (Q6 [1,0] (C₀:=Q2 LF) (Kc (lx:=[(31,Ei)]) (ly:=[(94,Ql)]) (ls:=[]) rfl rfl rfl ⟨CU,trivial⟩ ⟨Aj8,trivial⟩ trivial) (J0 rfl (by kernel_rfl)) follows ?_);intro args ret f h;unfold Yy at h;split at h
 ·rename_i s;obtain⟨b,h⟩:=G5 h;obtain⟨rfl,rfl⟩:=N0 h;obtain⟨e,c,a,d⟩:=Ad7 s b;exact⟨rfl,rfl,rfl,1,e,c,(Ad6 LF noY () 0 s).trans a,d⟩
 ·cases h
end
end
section
open Go Go.Proofs Go.Sort
set_option maxRecDepth 100000
theorem Ai5:B7 b9 GX 66 Kf:=λargs ret a h=>by
 have:F5 (Kf args)=none:=by unfold Kf DE;split<;>rfl
 rw[this] at h;cases h
theorem Aj9:PE b9 GX 65 Qm:=by
 refine HM (C₀:=Q7 LF) ((L7.ok (l:=[(66,Kf),(67,Zm)]) rfl ⟨Ai5,ZM,trivial⟩)) (J0 rfl (by kernel_rfl)) follows ?_;intro args H L h e a s d c;unfold Qm at h;split at h
 ·rename_i p t n;simp only[o7,ah6] at h;obtain⟨b,rfl⟩:=h;obtain⟨g,f⟩:=OR (R:=PV × List Blk × e) a p t n s d b c;exact⟨1,_,(YK LF a 0 p t n s).trans (f _)⟩
 ·cases h
end
section
open Go Go.Proofs
set_option maxRecDepth 100000
section
theorem Ai7:B7 b9 GX 51 PI:=xf [] (En LF) Rg rfl ⟨Aq9,Ar1,trivial⟩ rfl (by kernel_rfl) follows λargs=>by
 unfold Rg;split
 ·rename_i s;exact λa=>⟨rfl,rfl,rfl,_,_,(WZ LF noY () 0 s).trans (LE s a),rfl⟩
 ·trivial
theorem Aq8:B7 b9 GX 29 IS:=xf [] (Jm LF) Yw rfl ⟨Aq6,Ai7,trivial⟩ rfl (by kernel_rfl) follows λargs=>by
 unfold Yw;split
 ·rename_i s;exact λa=>⟨rfl,rfl,rfl,_,_,(Ac8 LF noY () 0 s).trans (TA s a),rfl⟩
 ·trivial
theorem Ai8:B7 b9 GX 49 Yv:=by
 refine B7.fix (pf:=Ri) _ (Fq (C₀:=AG LF) (L7.ok (l:=[]) rfl trivial) (J0 rfl (by kernel_rfl)) follows ?_);intro args ret a h;unfold Ri at h;split at h
 ·rename_i t p n;obtain⟨rfl,rfl⟩:=N0 h;have e:=(XB LF noY () 0 t p n).trans (LG t p n );exact⟨rfl,1,_,[],e,rfl,rfl⟩
 ·cases h
theorem Ar8:B7 b9 GX 28 IY:=by
 refine B7.fix (pf:=Zp) _ (Fq (C₀:=JT LF) (L7.ok (l:=[(49,Yv)]) rfl ⟨Ai8,trivial⟩) (J0 rfl (by kernel_rfl)) follows ?_);intro args ret a h;unfold Zp at h;split at h
 ·rename_i t p;obtain⟨rfl,rfl⟩:=N0 h;have e:=(Ag6 LF noY () 0 t p).trans (UK t p );exact⟨rfl,1,_,[],e,rfl,rfl⟩
 ·cases h
theorem Al4:B7 b9 GX 16 PG:=by
 refine B7.fix (pf:=IQ) _ (Q6 [] (C₀:=Gl LF) (Kc (lx:=[(27,Mw),(28,IY),(29,IS)]) (ly:=[]) (ls:=[(65,Qm)]) rfl rfl rfl ⟨VA,Ar8,Aq8,trivial⟩ trivial ⟨Aj9,trivial⟩) (J0 rfl (by kernel_rfl)) follows ?_);intro args ret f h;unfold IQ at h;split at h
 ·rename_i s;obtain⟨b,h⟩:=G5 h;obtain⟨rfl,rfl⟩:=N0 h;obtain⟨e,c,a,d⟩:=An8 s b;exact⟨rfl,rfl,rfl,1,e,c,(An7 LF noY () 0 s).trans a,d⟩
 ·cases h
end
section
variable {W R : Type} (L : Nat) (Q : C9) (Y : Yh W) (s : W) (k : Out -> St W -> Option R)
noncomputable def Sm(L:Nat):Cfg:=D1 L [88] (A5 []) [] (A5 [(1,[2]),(0,[0])]) [] (A5 []) (some [2]) [] [] []
noncomputable def CH{R:Type}(L:Nat)(n0:Int)(a:Bool->Option R):Option R:=cond (not (ltI n0 0)) (cond (not (ltI 1114111 n0)) (cond (ltI n0 55296) (a true) (a (ltI 57343 n0))) (a false)) (a false)
theorem UC(d:Nat)(n0):evC (Sm L) (d+1) W Y 88 [pI n0] [] s=CH L n0 (λa=>some (pB a,[],s)):=by refine(evE (fn:=Tryz.f88) (by kernel_rfl)).trans ?_;generalize evC (Sm L) d=Q;unfold CH;kernel_rfl
noncomputable abbrev Gk:Code:=F6 ah3
noncomputable def O5(L:Nat):Cfg:=D1 L [87] (A5 [(6,[0,5,0])]) [] (A5 [(9,[6]),(8,[0,6]),(7,[0,6]),(6,[0,6,11]),(5,[0,6]),(4,[0]),(2,[0,0]),(3,[0,0]),(1,[0,0,6]),(0,[0,0,0])]) [] (A5 [(0,[0,6]),(1,[0,6])]) (some [6]) [] [] []
noncomputable def Bb{R:Type}(L n:Nat)(a b:Int)(e:Int->Int->Option R):Option R:=match n with|0=>none|n+1=>cond (ltI 455 a) (vl (A2 (o9 a (35:Int))) λc=>vl (A2 (b+36)) λd=>Bb L n c d e) (e a b)
theorem BY(n a b):E2 0 ((O5 L).keep 6) (bd (O5 L) Q Y (cd [1,1,1,1,0,0,0] Gk)) n ⟨gp [(0,pI a),(6,pI b)] 23,[],s⟩ k =
 Bb L n a b (λa b=>k (.exit 0) ⟨gp [(0,pI a),(6,pI b)] 23,[],s⟩):=by
 induction n generalizing a b with
 | zero=>rfl
 | succ n c=>rw[Bb];simp only[<-c];kernel_rfl
noncomputable def Ba{R:Type}(L:Nat)(b h:Int)(i:Int->Option R):Option R:=cond (h !=0) (vl (A2 (o9 b h)) λg=>Bb L L (A2 (b+g)) 0 (λa d=>vl (A2 ((36:Int)*a)) λe=>vl (A2 (a+38)) λc=>cond (c !=0) (vl (A2 (o9 e c)) λf=>i (A2 (d+f))) none)) none
abbrev Pu(b:Code):Prop:=∀(k:Out->St W->Option R) delta0 n1,B2 (O5 L) Q Y b ⟨gp [(0,pI delta0),(0,pI n1)] 29,[],s⟩ k=Ba L delta0 n1 (λn0=>k .ret ⟨gp [(6,pI n0)] 24,[],s⟩)
theorem BX:Pu (R:=R) L Q Y s (cd [1,1] Gk):=by intro k a c;unfold Ba;exact(b8 (by kernel_rfl) (A1 (A6 λb=>((BY L Q Y s (H4 0 (I1 (O5 L) Q Y (cd [1,1,1,1,1] Gk) k)) L (A2 (a+b)) 0).trans (by kernel_rfl))) rfl))
noncomputable def Um{R:Type}(L:Nat)(a h:Int)(b:Bool)(g:Int->Option R):Option R:=cond b (vl (A2 (o9 a (700:Int))) λe=>Ba L e h (λc=>g c)) (vl (A2 (o9 a (2:Int))) λf=>Ba L f h (λd=>g d))
theorem TP(d:Code)(a:Pu (R:=PV × List Blk × W) L Q Y s d)(b e:Int)(c:Bool):B2 (O5 L) Q Y (cd [] (O0 [1,1] d Gk)) ⟨[pI b,pI e,pB c]++tps 28,[],s⟩ (K6 (O5 L) ah3)=Um L b e c (λi=>some (pI i,[],s)):=by unfold Um;exact let h:=(K6 (O5 L) ah3);(b8 (by kernel_rfl) (A1 (A6 λf=>((a h f e).trans (by kernel_rfl))) (A6 λg=>((a h g e).trans (by kernel_rfl)))))
theorem TQ(d:Nat)(delta0 n1 first2):evC (O5 L) (d+1) W Y 87 [pI delta0,pI n1,pB first2] [] s=Um L delta0 n1 first2 (λa=>some (pI a,[],s)):=
 (evE (fn:=ah3) (by kernel_rfl)).trans (b8 (by kernel_rfl) (TP L (evC (O5 L) d) Y s (cd [1,1] Gk) (BX L (evC (O5 L) d) Y s) delta0 n1 first2))
noncomputable def JS(L:Nat):Cfg:=D1 L [86] (A5 []) [] (A5 [(1,[4]),(0,[0,0])]) [] (A5 []) (some [4]) [] [] []
noncomputable def Af9{R:Type}(L:Nat)(c a:Int)(e:Int->Option R):Option R:=vl (A2 ((36:Int)*(A2 (c+1)))) λb=>vl (if ((if ((A2 (b-a))<(26:Int)) then (A2 (b-a)) else (26:Int)) > (1:Int)) then (if ((A2 (b-a))<(26:Int)) then (A2 (b-a)) else (26:Int)) else (1:Int)) λd=>e d
theorem Ag0(d:Nat)(kk0 bias1):evC (JS L) (d+1) W Y 86 [pI kk0,pI bias1] [] s=Af9 L kk0 bias1 (λa=>some (pI a,[],s)):=by refine(evE (fn:=Tryz.f86) (by kernel_rfl)).trans ?_;generalize evC (JS L) d=Q;unfold Af9;kernel_rfl
noncomputable def AJ(L:Nat):Cfg:=D1 L [89] (A5 []) [] (A5 [(3,[2]),(2,[2]),(1,[0,3]),(0,[0])]) [] (A5 []) (some [2]) [] [] []
noncomputable def QU{R:Type}(L:Nat)(a:Int)(d:Int->Option R):Option R:=cond (ltI a 26) (vl (wu8 (A2 ((97:Int)+a))) λb=>d b) (vl (A2 ((A2 ((48:Int)+a))-26)) λc=>d (wu8 c))
theorem XR(d:Nat)(d0):evC (AJ L) (d+1) W Y 89 [pI d0] [] s=QU L d0 (λa=>some (p8 a,[],s)):=by refine(evE (fn:=Tryz.f89) (by kernel_rfl)).trans ?_;generalize evC (AJ L) d=Q;unfold QU;kernel_rfl
noncomputable abbrev Jl:Code:=F6 ah2
noncomputable def Dc(L:Nat):Cfg:=D1 L [85] (A5 []) [] (A5 [(7,[2]),(2,[2]),(4,[2]),(6,[2]),(5,[0,22]),(3,[0,12]),(1,[0,2]),(0,[0])]) [] (A5 [(0,[])]) (some [2]) [] [] []
noncomputable def Md{R:Type}(a:Int)(g:Bool)(e:Int->Option R)(f:Int->Bool->Option R):Option R:=cond g (vl (A2 (wu8 (a-65))) λb=>e b) (cond (not (ltI a 48)) (cond (not (ltI 57 a)) (vl (A2 (wu8 (a-48))) λc=>vl (A2 (c+26)) λd=>e d) (f a (not (ltI 57 a)))) (f a false))
abbrev Ye(b:Code):Prop:=∀(k:Out->St W->Option R) a c,B2 (Dc L) Q Y b ⟨gp [(0,p8 a),(12,pB c)] 20,[],s⟩ k=Md a c (λn0=>k .ret ⟨gp [(2,pI n0)] 31,[],s⟩) (λa c=>k .normal ⟨gp [(0,p8 a),(22,pB c)] 10,[],s⟩)
theorem OI:Ye (R:=R) L Q Y s (cd [1,0,0,1,1,1] Jl):=by intro k a b;unfold Md;kernel_rfl
noncomputable def Me{R:Type}(a:Int)(l:Bool)(f:Int->Option R)(j:Int->Bool->Option R):Option R:=cond l (vl (A2 (wu8 (a-97))) λg=>f g) (cond (not (ltI a 65)) (Md a (not (ltI 90 a)) (λh=>f h) (λb c=>j b c)) (Md a false (λi=>f i) (λd e=>j d e)))
abbrev Ot(b:Code):Prop:=∀(k:Out->St W->Option R) a c,B2 (Dc L) Q Y b ⟨gp [(0,p8 a),(2,pB c)] 30,[],s⟩ k=Me a c (λn0=>k .ret ⟨gp [(2,pI n0)] 31,[],s⟩) (λa c=>k .normal ⟨gp [(0,p8 a),(22,pB c)] 10,[],s⟩)
theorem OJ(a:Code)(b:Ye (R:=R) L Q Y s a):Ot (R:=R) L Q Y s (cd [1,0,0,1] (O0 [1,0,0,1,1,1] a Jl)):=by intro k c d;unfold Me;simp only[<-b k];kernel_rfl
theorem OK:Ot (R:=R) L Q Y s (cd [1,0,0,1] Jl):=by intro k a b;exact b8 (by kernel_rfl) (OJ L Q Y s (cd [1,0,0,1,1,1] Jl) (OI L Q Y s) k a b)
noncomputable def YG{R:Type}(L:Nat)(c:Int)(d:Int->Option R):Option R:=cond (not (ltI c 97)) (Me c (not (ltI 122 c)) (λa=>d a) (λe f=>d (-1))) (Me c false (λb=>d b) (λg h=>d (-1)))
theorem Ag1(b:Code)(a:Ot (R:=PV × List Blk × W) L Q Y s b)(c:Int):B2 (Dc L) Q Y (cd [] (O0 [1,0,0,1] b Jl)) ⟨[p8 c]++tps 33,[],s⟩ (K6 (Dc L) ah2)=YG L c (λe=>some (pI e,[],s)):=by unfold YG;exact let d:=(H4 0 (I1 (Dc L) Q Y (cd [1,1] Jl) (K6 (Dc L) ah2)));(b8 (by kernel_rfl) (A1 ((a d c (not (ltI 122 c))).trans (by kernel_rfl)) ((a d c false).trans (by kernel_rfl))))
theorem Ag2(d:Nat)(b0):evC (Dc L) (d+1) W Y 85 [p8 b0] [] s=YG L b0 (λa=>some (pI a,[],s)):=
 (evE (fn:=ah2) (by kernel_rfl)).trans (b8 (by kernel_rfl) (Ag1 L (evC (Dc L) d) Y s (cd [1,0,0,1] Jl) (OK L (evC (Dc L) d) Y s) b0))
noncomputable abbrev T9:Code:=F6 ag9
noncomputable def H8(L:Nat):Cfg:=D1 L [62] (A5 [(32,[0,1,0,0,1,0,0,0,0,2,0,0]),(25,[0,1,0,0,1,0,0,0,0,2]),(18,[0,1,0,0,1,0,0,0,0,0,0]),(15,[0,1,0,0,1,0,0,0,0]),(5,[0,1,0,0,0])]) [(88,Rt),(86,IX),(89,PK),(87,Rl)] (A5 [(43,[2,0]),(42,[0,3,1,0,0,0,0]),(41,[0,3,1,0,0,0,0]),(26,[0,3,1,0,0,0,0,2]),(40,[0,3,1,0,0,0,0,2]),(39,[0,3,1,0,0,0,0,2]),(38,[0,3,1,0,0,1,2]),(37,[0,3,1,0,0,0,3]),(36,[0,3,1,0,0,0,0,2,0,0]),(35,[0,3,1,0,0,0,0,2,0,0]),(34,[0,3,1,0,0,0,0,2,0,0,0]),(33,[0,3,1,0,0,0,0,2,0,0,0]),(32,[0,3,1,0,0,0,0,2,0,0,94]),(31,[0,3,1,0,0,0,0,2,0,0]),(30,[0,3,1,0,0,0,0,2,0]),(29,[0,3,1,0,0,0,0,2,90]),(28,[0,3,1,0,0,0,0,2]),(27,[0,3,1,0,0,0,0,2,82]),(25,[0,3,1,0,0,0,0,2,74]),(24,[0,3,1,0,0,0,0,2]),(23,[0,3,1,0,0,0,0]),(22,[0,3,1,0,1,0,0]),(19,[0,3,1,0,0,0,0,0,0]),(21,[0,3,1,0,0,0,0,0,0]),(20,[0,3,1,0,0,0,0,0,0,56]),(18,[0,3,1,0,0,0,0,0,0,48]),(17,[0,3,1,0,0,0,0,0,0]),(16,[0,3,1,0,0,0,0,0]),(15,[0,3,1,0,0,0,0,46]),(14,[0,3,1,0,0,0,0]),(13,[0,3,1,0]),(12,[0,3,1,0,42]),(11,[0,3,1,0]),(6,[0,3,0]),(10,[0,3,0]),(9,[0,3,0,30]),(8,[2,0]),(7,[0,3,0,25]),(5,[0,3,0,17]),(4,[0,3,0]),(3,[0,3]),(2,[2,0]),(1,[0,18]),(0,[0])]) [88,86,89,87] (A5 [(2,[4]),(3,[0,3,1,0,0,0,0]),(6,[0,3,1,0,0,0,0]),(7,[0,3,1,0,0,0,0,2]),(8,[0,3,1,0,0,0,3,0]),(9,[0,3,1,0,0,0,0,2,0,0]),(4,[0,3,1,0,0,0,0,0]),(5,[0,3,1,0,0,0,0,0,0]),(0,[0,3]),(1,[0,3,0])]) (some [2,0]) [] [] []
noncomputable def M9{R:Type}(L n:Nat)(c b:Bool)(a:LL)(d:Int)(e:LL)(f:LL->Option R)(g:Bool->Bool->LL->LL->Option R):Option R:=match n with|0=>none|n+1=>cond (ltI d (a.length:Int)) (cond (inR d a.length) (cond (okE Ed a (a8 d) 0) (vl (gE a (a8 d) 0) λh=>cond (not (ptI h)) (f e) (cond (inR d a.length) (cond (okE Ed a (a8 d) 0) (vl (gE a (a8 d) 0) λi=>cond (ltI i 128) (cond (inR d a.length) (cond (okE Ed a (a8 d) 0) (vl (gE a (a8 d) 0) λj=>cond (F8 (e.length+1)) (M9 L n c b a (A2 (d+1)) (e++[[(SV.int .u8 (wu8 j))]]) f g) none) none) none) (M9 L n c b a (A2 (d+1)) e f g)) none) none)) none) none) (g c b a e)
theorem NE(n b a c i3 l4):E2 1 ((H8 L).keep 5) (bd (H8 L) Q Y (cd [1,1,1,0,1,0,0] T9)) n ⟨gp [(0,.s (.sl b a 1 c)),(3,.fl 0),(0,pI i3)] 148,[.arr true 5 1 l4],s⟩ k =
 M9 L n b a c i3 l4 (λe=>k .ret ⟨gp [(2,pS ([]:List UInt8)),(0,pI (2:Int))] 150,[.arr true 5 1 e],s⟩) (λb a c f=>k (.exit 0) ⟨gp [(0,.s (.sl b a 1 c)),(3,.fl 0)] 149,[.arr true 5 1 f],s⟩):=by
 induction n generalizing b a c i3 l4 with
 | zero=>rfl
 | succ n d=>rw[M9];simp only[<-d];kernel_rfl
noncomputable def Cs{R:Type}(L n:Nat)(c b:Bool)(a:LL)(h e p f g d i:Int)(l:LL)(q:Bool->Bool->LL->Int->Int->Int->Int->Int->Int->LL->Option R):Option R:=match n with|0=>none|n+1=>cond (ltI i (a.length:Int)) (cond (inR i a.length) (cond (okE Ed a (a8 i) 0) (vl (gE a (a8 i) 0) λm=>cond (not (ltI m p)) (cond (inR i a.length) (cond (okE Ed a (a8 i) 0) (vl (gE a (a8 i) 0) λj=>vl (if (j<d) then j else d) λo=>Cs L n c b a h e p f g o (A2 (i+1)) l q) none) none) (Cs L n c b a h e p f g d (A2 (i+1)) l q)) none) none) (q c b a h e p f g d l)
theorem NF(n b a c h d i e g f i9 l10):E2 1 ((H8 L).keep 18) (bd (H8 L) Q Y (cd [1,1,1,1,1,1,1,0,0,0,1,0,1,0,1,0,0] T9)) n ⟨gp [(0,.s (.sl b a 1 c)),(3,.fl 0),(1,pI h),(0,pI d),(0,pI i),(0,pI e),(0,pI g),(0,pI f),(0,pI i9)] 141,[.arr true 5 1 l10],s⟩ k =
 Cs L n b a c h d i e g f i9 l10 (λb a c h d i e g f l=>k (.exit 4) ⟨gp [(0,.s (.sl b a 1 c)),(3,.fl 0),(1,pI h),(0,pI d),(0,pI i),(0,pI e),(0,pI g),(0,pI f)] 142,[.arr true 5 1 l],s⟩):=by
 induction n generalizing b a c h d i e g f i9 l10 with
 | zero=>rfl
 | succ n j=>rw[Cs];simp only[<-j];kernel_rfl
noncomputable def Ak{R:Type}(L n:Nat)(c b:Bool)(f:LL)(i g w h a i8 u e:Int)(o:LL)(v:Bool->Bool->LL->Int->Int->Int->Int->Int->Int->LL->Option R):Option R:=match n with|0=>none|n+1=>cond (ltN e 10000000000) (cond (ltN a 1000000) (vl (G9 (ab3 (36:Int) e) a) λp=>cond (not (ltI u p)) (cond (ltN e 10000000000) (cond (ltN a 1000000) (vl (G9 (ab3 (36:Int) e) a) λd=>vl (A2 ((36:Int)-d)) λj=>cond (j !=0) (vl (o8 (A2 (u-d)) j) λl=>cond (ltN (A2 (d+l)) 36) (vl (↑(ab4 (Q5 (a8 (A2 (d+l))))):Int) λq=>cond (F8 (o.length+1)) (vl (A2 ((36:Int)-d)) λm=>cond (m !=0) (vl (A2 (o9 (A2 (u-d)) m)) λr=>vl (A2 (e+1)) λt=>Ak L n c b f i g w h a i8 r t (o++[[(SV.int .u8 q)]]) v) none) none) none) none) none) none) (v c b f i g w h i8 u o)) none) none
theorem Up(n b a c f d g e bias7 i8 q9 kk10 l11):E2 1 ((H8 L).keep 32) (bd (H8 L) Q Y (cd [1,1,1,1,1,1,1,0,0,0,1,0,1,1,1,1,0,1,0,0,1,0,0,1,1,1,1,0,0,0] T9)) n ⟨gp [(0,.s (.sl b a 1 c)),(3,.fl 0),(1,pI f),(0,pI d),(0,pI g),(0,pI e),(0,pI bias7),(2,pI i8),(0,pI q9),(0,pI kk10)] 138,[.arr true 5 1 l11],s⟩ k =
 Ak L n b a c f d g e bias7 i8 q9 kk10 l11 (λb a c f d g e h l j=>k (.exit 8) ⟨gp [(0,.s (.sl b a 1 c)),(3,.fl 0),(1,pI f),(0,pI d),(0,pI g),(0,pI e),(3,pI h),(0,pI l)] 139,[.arr true 5 1 j],s⟩):=by
 induction n generalizing b a c f d g e bias7 i8 q9 kk10 l11 with
 | zero=>rfl
 | succ n i=>rw[Ak];simp only[<-i];kernel_rfl
noncomputable def Q9{R:Type}(L n:Nat)(c b:Bool)(a:LL)(i d B e f i8:Int)(I:LL)(H:Bool->Bool->LL->Int->Int->Int->Int->Int->LL->Option R):Option R:=match n with|0=>none|n+1=>cond (ltI i8 (a.length:Int)) (cond (inR i8 a.length) (cond (okE Ed a (a8 i8) 0) (vl (gE a (a8 i8) 0) λJ=>cond (ltI J B) (vl (A2 (e+1)) λw=>cond (inR i8 a.length) (cond (okE Ed a (a8 i8) 0) (vl (gE a (a8 i8) 0) λK=>cond (K !=B) (Q9 L n c b a i d B w f (A2 (i8+1)) I H) (Ak L L c b a i d B w f i8 w 0 I (λr p u g j N m F C z=>cond (ltN C 36) (vl (↑(ab4 (Q5 (a8 C))):Int) λO=>cond (F8 (z.length+1)) (vl (A2 (g+1)) λx=>cond (ltN m 1152921504606846976) (cond (ltN x 1000000) (cond (ltI 0 x) (vl (↑(K3 (a8 m) (a8 x) (g==j)):Int) λP=>vl (A2 (g+1)) λS=>vl (A2 (F+1)) λT=>Q9 L n r p u S j N 0 P T (z++[[(SV.int .u8 O)]]) H) none) none) none) none) none))) none) none) (cond (inR i8 a.length) (cond (okE Ed a (a8 i8) 0) (vl (gE a (a8 i8) 0) λM=>cond (M !=B) (Q9 L n c b a i d B e f (A2 (i8+1)) I H) (Ak L L c b a i d B e f i8 e 0 I (λt q v h l U o G D A=>cond (ltN D 36) (vl (↑(ab4 (Q5 (a8 D))):Int) λV=>cond (F8 (A.length+1)) (vl (A2 (h+1)) λy=>cond (ltN o 1152921504606846976) (cond (ltN y 1000000) (cond (ltI 0 y) (vl (↑(K3 (a8 o) (a8 y) (h==l)):Int) λX=>vl (A2 (h+1)) λZ=>vl (A2 (G+1)) λa0=>Q9 L n t q v Z l U 0 X a0 (A++[[(SV.int .u8 V)]]) H) none) none) none) none) none))) none) none)) none) none) (H c b a i d B e f I)
theorem NG(n b a c g d t e f i8 l9):E2 1 ((H8 L).keep 25) (bd (H8 L) Q Y (cd [1,1,1,1,1,1,1,0,0,0,1,0,1,1,1,1,0,1,0,0] T9)) n ⟨gp [(0,.s (.sl b a 1 c)),(3,.fl 0),(1,pI g),(0,pI d),(0,pI t),(0,pI e),(0,pI f),(2,pI i8)] 140,[.arr true 5 1 l9],s⟩ k =
 Q9 L n b a c g d t e f i8 l9 (λb a c g d t e f l8=>k (.exit 6) ⟨gp [(0,.s (.sl b a 1 c)),(3,.fl 0),(1,pI g),(0,pI d),(0,pI t),(0,pI e),(0,pI f)] 143,[.arr true 5 1 l8],s⟩):=by
 induction n generalizing b a c g d t e f i8 l9 with
 | zero=>rfl
 | succ n M=>rw[Q9];exact let N:=(H4 8 (I1 (H8 L) Q Y (cd [1,1,1,1,1,1,1,0,0,0,1,0,1,1,1,1,0,1,0,0,1,0,0,1,1,1,1,1] T9) (H4 7 (I1 (H8 L) Q Y (cd [1,1,1,1,1,1,1,0,0,0,1,0,1,1,1,1,0,1,0,0,1,1] T9) (lpK 1 ((H8 L).keep 25) (bd (H8 L) Q Y (cd [1,1,1,1,1,1,1,0,0,0,1,0,1,1,1,1,0,1,0,0] T9)) n k)))));(b8 (by kernel_rfl) (A1 (A1 (A1 (A6 λS=>(A1 (A6 λr=>(A1 (A1 (A6 λT=>(A1 (M b a c g d t r f (A2 (i8+1)) l9) ((Up L Q Y s N L b a c g d t r f i8 r 0 l9).trans (congr rfl (Ab6 λj h m w p A u O Z y=>(b8 (by kernel_rfl) (A1 (A6 λB=>(A1 (A6 λV=>(A1 (A1 (A1 (A6 λC=>(A6 λD=>(A6 λF=>(M j h m D p A 0 C F (y++[[(SV.int .u8 B)]]))))) rfl) rfl) rfl)) rfl)) rfl))))))) rfl) rfl)) (A1 (A1 (A6 λU=>(A1 (M b a c g d t e f (A2 (i8+1)) l9) ((Up L Q Y s N L b a c g d t e f i8 e 0 l9).trans (congr rfl (Ab6 λl i o x q G v P a0 z=>(b8 (by kernel_rfl) (A1 (A6 λH=>(A1 (A6 λX=>(A1 (A1 (A1 (A6 λI=>(A6 λJ=>(A6 λK=>(M l i o J q G 0 I K (z++[[(SV.int .u8 H)]]))))) rfl) rfl) rfl)) rfl)) rfl))))))) rfl) rfl))) rfl) rfl) rfl))
noncomputable def Al{R:Type}(L n:Nat)(l j:Bool)(g:LL)(v w K x y:Int)(J:LL)(I:LL->Option R):Option R:=match n with|0=>none|n+1=>cond (ltI v (g.length:Int)) (Cs L L l j g v w K x y 1073741824 0 J (λd b h f m B p r a z=>vl (A2 (f+1)) λC=>vl (A2 ((A2 (a-B))*C)) λD=>Q9 L L d b h f m a (A2 (p+D)) r 0 z (λe c i u o F q t A=>vl (A2 (q+1)) λG=>vl (A2 (F+1)) λH=>Al L n e c i u o H G t A I))) (I J)
theorem Uq(n points_z0 points_t1 points2 done3 basic4 n5 delta6 bias7 l8):E2 1 ((H8 L).keep 15) (bd (H8 L) Q Y (cd [1,1,1,1,1,1,1,0,0,0] T9)) n ⟨gp [(0,.s (.sl points_z0 points_t1 1 points2)),(3,.fl 0),(1,pI done3),(0,pI basic4),(0,pI n5),(0,pI delta6),(0,pI bias7)] 143,[.arr true 5 1 l8],s⟩ k =
 Al L n points_z0 points_t1 points2 done3 basic4 n5 delta6 bias7 l8 (λB=>k (.exit 2) ⟨gp [(4,.fl 0)] 149,[.arr true 5 1 B],s⟩):=by
 induction n generalizing points_z0 points_t1 points2 done3 basic4 n5 delta6 bias7 l8 with
 | zero=>rfl
 | succ n A=>rw[Al];exact(b8 (by kernel_rfl) (A1 ((NF L Q Y s (H4 4 (I1 (H8 L) Q Y (cd [1,1,1,1,1,1,1,0,0,0,1,0,1,1] T9) (H4 3 (lpK 1 ((H8 L).keep 15) (bd (H8 L) Q Y (cd [1,1,1,1,1,1,1,0,0,0] T9)) n k)))) L points_z0 points_t1 points2 done3 basic4 n5 delta6 bias7 1073741824 0 l8).trans (congr rfl (Ab6 λc a e o g x i l j r=>(b8 (by kernel_rfl) (A6 λy=>(A6 λu=>((NG L Q Y s (H4 6 (I1 (H8 L) Q Y (cd [1,1,1,1,1,1,1,0,0,0,1,0,1,1,1,1,1] T9) (H4 3 (lpK 1 ((H8 L).keep 15) (bd (H8 L) Q Y (cd [1,1,1,1,1,1,1,0,0,0] T9)) n k)))) L c a e o g j (A2 (i+u)) l 0 r).trans (congr rfl (fx9 λd b f p h z q m t=>(b8 (by kernel_rfl) (A6 λv=>(A6 λw=>(A d b f p h w v m t))))))))))))) rfl))
noncomputable def GC{R:Type}(L:Nat)(f e:Bool)(d:LL)(o:Unit->Option R)(m:By->Int->LL->Option R):Option R:=cond (ltI 256 (d.length:Int)) (o ()) (M9 L L f e d 0 [] (λn=>m ([]:List UInt8) 2 n) (λb a c g=>vl (g.length:Int) λl=>vl (g.length:Int) λj=>cond (ltI 0 j) (cond (F8 (g.length+1)) (Al L L b a c l j 128 0 72 (g++[[(SV.int .u8 (45:Int))]]) (λh=>cond (u0 h AZ) (m (s7 Vk h) 0 h) none)) none) (Al L L b a c l j 128 0 72 g (λi=>cond (u0 i AZ) (m (s7 Vk i) 0 i) none))))
theorem Af1(d:Nat)(points_z0 points_t1 points2):evC (H8 L) (d+1) W Y 62 [.s (.sl points_z0 points_t1 1 points2)] [] s=GC L points_z0 points_t1 points2 (λ_=>some (.tup [pS ([]:List UInt8),pI (3:Int)],[],s)) (λj l i=>some (.tup [pS j,pI l],[.arr true 5 1 i],s)):=by refine(evE (fn:=ag9) (by kernel_rfl)).trans ?_;generalize evC (H8 L) d=Q;unfold GC;exact let h:=(H4 2 (I1 (H8 L) Q Y (cd [1,1,1,1,1,1,1,1] T9) (K6 (H8 L) ag9)));(b8 (by kernel_rfl) (A1 rfl ((NE L Q Y s (H4 0 (I1 (H8 L) Q Y (cd [1,1,1,1] T9) (K6 (H8 L) ag9))) L points_z0 points_t1 points2 0 []).trans (congr (congr rfl (by kernel_rfl)) (fx4 λb a c g=>(b8 (by kernel_rfl) (A6 λe=>(A6 λf=>(A1 (A1 ((Uq L Q Y s h L b a c e f 128 0 72 (g++[[(SV.int .u8 (45:Int))]])).trans (by kernel_rfl)) rfl) ((Uq L Q Y s h L b a c e f 128 0 72 g).trans (by kernel_rfl)))))))))))
noncomputable abbrev P7:Code:=F6 ae4
noncomputable def F0(L:Nat):Cfg:=D1 L [61] (A5 [(27,[0,1,0,2,1,0,0,0,0,0,0,0]),(23,[0,1,0,2,1,0,0,0,0]),(13,[0,1,0,0,1,0]),(5,[0,1,0,0,0])]) [(85,VM),(86,IX),(87,Rl),(88,Rt)] (A5 [(51,[2,0]),(50,[0,5,1,0,0,0,0]),(49,[2,0]),(48,[0,5,1,0,0,0,0,118]),(47,[0,5,1,0,0,0,0]),(46,[2,0]),(45,[0,5,1,0,0,0,0,103]),(44,[0,5,1,0,0,0,0]),(43,[0,5,1,0,0,0,0]),(42,[0,5,1,0,0,0,0]),(41,[0,5,1,0,0,0]),(26,[0,5,1,0,0,0,0,0,0,0]),(40,[2,0]),(39,[0,5,1,0,0,0,0,0,0,0,77]),(38,[0,5,1,0,0,0,0,0,0,0]),(37,[0,5,1,0,0,0,0,0,0,0,1,69]),(36,[0,5,1,0,0,0,0,0,0,0,0,0]),(35,[2,0]),(34,[0,5,1,0,0,0,0,0,0,0,0,64]),(33,[0,5,1,0,0,0,0,0,0,0,0]),(32,[2,0]),(31,[0,5,1,0,0,0,0,0,0,0,0,57]),(30,[0,5,1,0,0,0,0,0,0,0,0]),(29,[0,5,1,0,0,0,0,0,0,0,0]),(28,[2,0]),(27,[0,5,1,0,0,0,0,0,0,0,50]),(25,[0,5,1,0,0,0,0,0,0,0]),(24,[0,5,1,0,0,0,0,0,0]),(23,[0,5,1,0,0,0,0,46]),(22,[0,5,1,0,0,0,0]),(21,[0,5,1,0,0,0]),(20,[0,5,1]),(19,[0,5,1,44]),(18,[0,3,1,1]),(17,[2,0]),(16,[0,3,1,43]),(14,[0,3,1,0]),(15,[0,3,1,0]),(13,[0,3,1,0,30]),(12,[0,3,1,0]),(11,[0,3,1]),(6,[0,3,0]),(10,[0,3,0]),(9,[0,3,0,28]),(8,[2,0]),(7,[0,3,0,24]),(5,[0,3,0,18]),(4,[0,3,0]),(3,[0,3]),(2,[2,0]),(1,[0,19]),(0,[0])]) [85,86,87,88] (A5 [(4,[6]),(5,[0,5,1,0,0,0,0]),(6,[0,5,1,0,0,1,0]),(7,[0,5,1,0,0,0,0,0,0,0]),(2,[0,3,1]),(3,[0,3,1,0]),(0,[0,3]),(1,[0,3,0])]) (some [2,0]) [] [] [] (rw:=[(47,6)])
noncomputable def Z3{R:Type}(L n:Nat)(c:By)(a b:Int)(d:Unit->Option R)(e:By->Int->Option R):Option R:=match n with|0=>none|n+1=>cond (ltI b (c.length:Int)) (cond (inR b c.length) (cond (not (ltI (bAt c b) (128:Int))) (d ()) (cond (inR b c.length) (cond ((bAt c b)==45) (Z3 L n c b (A2 (b+1)) d e) (Z3 L n c a (A2 (b+1)) d e)) none)) none) (e c a)
theorem GS(n b a i2):E2 0 ((F0 L).keep 5) (bd (F0 L) Q Y (cd [1,1,1,0,1,0,0] P7)) n ⟨gp [(0,pS b),(3,pI a),(0,pI i2)] 129,[],s⟩ k =
 Z3 L n b a i2 (λ_=>k .ret ⟨gp [(2,.fl 0),(0,pI (4:Int))] 131,[.arr true 3 1 []],s⟩) (λb a=>k (.exit 0) ⟨gp [(0,pS b),(3,pI a)] 130,[],s⟩):=by
 induction n generalizing b a i2 with
 | zero=>rfl
 | succ n c=>rw[Z3];simp only[<-c];kernel_rfl
noncomputable def Ce{R:Type}(L n:Nat)(c:By)(a b:Int)(d:LL)(e:By->Int->LL->Option R):Option R:=match n with|0=>none|n+1=>cond (ltI b a) (cond (inR b c.length) (cond (F8 (d.length+1)) (Ce L n c a (A2 (b+1)) (d++[[(SV.int .i64 (A2 (bAt c b)))]]) e) none) none) (e c a d)
theorem GU(n b a i2 l3):E2 1 ((F0 L).keep 13) (bd (F0 L) Q Y (cd [1,1,1,1,1,0,1,0,0] P7)) n ⟨gp [(0,pS b),(3,pI a),(1,.fl 0),(0,pI i2)] 127,[.arr true 3 1 l3],s⟩ k =
 Ce L n b a i2 l3 (λb a d=>k (.exit 2) ⟨gp [(0,pS b),(3,pI a),(1,.fl 0)] 128,[.arr true 3 1 d],s⟩):=by
 induction n generalizing b a i2 l3 with
 | zero=>rfl
 | succ n c=>rw[Ce];simp only[<-c];kernel_rfl
noncomputable def N3{R:Type}(L n:Nat)(l:By)(g:LL)(b q r a f o h:Int)(j:LL)(m:Int->LL->Option R)(p:By->LL->Int->Int->Int->Int->LL->Option R):Option R:=match n with|0=>none|n+1=>cond (not (ltI b (l.length:Int))) (m 4 j) (cond (inR b l.length) (cond (inR (bAt l b) 256) (vl (C2 (u8n (bAt l b))) λi=>cond (ltI i 0) (m 4 j) (vl (A2 (r+(A2 (i*o)))) λc=>cond (ltI 1099511627776 c) (m 19 j) (cond (ltN h 10000000000) (cond (ltN a 1000000) (vl (G9 (ab3 (36:Int) h) a) λd=>cond (ltI i d) (p l g (A2 (b+1)) q c f j) (vl (A2 ((36:Int)-d)) λe=>cond (ltI 1099511627776 (A2 (o*e))) (m 19 j) (N3 L n l g (A2 (b+1)) q c a f (A2 (o*e)) (A2 (h+1)) j m p))) none) none))) none) none)
theorem GV(n f a b d c bias5 old6 w7 kk8 l9):E2 1 ((F0 L).keep 27) (bd (F0 L) Q Y (cd [1,1,1,1,1,1,1,1,1,1,1,0,0,0,1,0,1,0,1,0,0] P7)) n ⟨gp [(0,pS f),(5,.s (.sl false false 1 a)),(1,pI b),(0,pI d),(0,pI c),(0,pI bias5),(0,pB false),(0,pI old6),(0,pI w7),(0,pI kk8)] 119,[.arr true 3 1 l9],s⟩ k =
 N3 L n f a b d c bias5 old6 w7 kk8 l9 (λn0 h=>k .ret ⟨gp [(2,.fl 1),(0,pI n0)] 131,[.arr true 3 1 h,.arr true 3 1 []],s⟩) (λf a b d c e i=>k (.exit 6) ⟨gp [(0,pS f),(5,.s (.sl false false 1 a)),(1,pI b),(0,pI d),(0,pI c),(1,pB false),(0,pI e)] 121,[.arr true 3 1 i],s⟩):=by
 induction n generalizing f a b d c bias5 old6 w7 kk8 l9 with
 | zero=>rfl
 | succ n g=>rw[N3];simp only[<-g];kernel_rfl
noncomputable def J1{R:Type}(L n:Nat)(C:By)(m:LL)(q D y p:Int)(B:LL)(x:Int->LL->Option R)(z:LL->LL->Option R)(A:LL->LL->Option R):Option R:=match n with|0=>none|n+1=>cond (ltI q (C.length:Int)) (N3 L L C m q D y p y 1 0 B (λt r=>x t r) (λw a o d b h i=>vl (A2 ((a.length:Int)+1)) λj=>cond (ltN (A2 (b-h)) 1152921504606846976) (cond (ltN j 1000000) (cond (ltI 0 j) (vl (↑(K3 (a8 (A2 (b-h))) (a8 j) false):Int) λu=>vl (A2 ((a.length:Int)+1)) λl=>cond (l !=0) (vl (A2 (o9 b l)) λe=>vl (A2 ((a.length:Int)+1)) λf=>cond (f !=0) (cond (not (ptI (A2 (d+e)))) (x 2 i) (cond (O2 0 (o8 b f) a.length) (vl (cut a 0 (o8 b f)) λc=>cond (O2 (o8 b f) (a.length:Int) a.length) (vl (cut a (o8 b f) (a.length:Int)) λg=>cond (F8 (0+c.length)) (cond (F8 (c.length+1)) (cond (F8 ((o3 (c++[[(SV.int .i64 (A2 (d+e)))]]))+g.length)) (cond (ltI 256 (↑(o3 ((c++[[(SV.int .i64 (A2 (d+e)))]])++g)):Int)) (z i ((c++[[(SV.int .i64 (A2 (d+e)))]])++g)) (vl (A2 ((o8 b f)+1)) λv=>J1 L n w ((c++[[(SV.int .i64 (A2 (d+e)))]])++g) o (A2 (d+e)) v u i x z A)) none) none) none) none) none)) none) none) none) none) none)) (A m B)
theorem GW(n s0 out1 at2 n3 i4 bias5 l6):E2 1 ((F0 L).keep 23) (bd (F0 L) Q Y (cd [1,1,1,1,1,1,1,1,1,1,1,0,0,0] P7)) n ⟨gp [(0,pS s0),(5,.s (.sl false false 1 out1)),(1,pI at2),(0,pI n3),(0,pI i4),(0,pI bias5),(0,pB false)] 122,[.arr true 3 1 l6],s⟩ k =
 J1 L n s0 out1 at2 n3 i4 bias5 l6 (λn0 g=>k .ret ⟨gp [(2,.fl 1),(0,pI n0)] 131,[.arr true 3 1 g,.arr true 3 1 []],s⟩) (λv g=>k .ret ⟨gp [(2,.fl 2),(0,pI (3:Int))] 131,[.arr true 3 1 v,.arr false 3 1 g,.arr true 3 1 []],s⟩) (λj g=>k (.exit 4) ⟨gp [(6,.s (.sl false false 1 j))] 128,[.arr true 3 1 g],s⟩):=by
 induction n generalizing s0 out1 at2 n3 i4 bias5 l6 with
 | zero=>rfl
 | succ n u=>rw[J1];exact(b8 (by kernel_rfl) (A1 ((GV L Q Y s (H4 6 (I1 (F0 L) Q Y (cd [1,1,1,1,1,1,1,1,1,1,1,0,0,0,1,0,1,1] P7) (H4 5 (lpK 1 ((F0 L).keep 23) (bd (F0 L) Q Y (cd [1,1,1,1,1,1,1,1,1,1,1,0,0,0] P7)) n k)))) L s0 out1 at2 n3 i4 bias5 i4 1 0 l6).trans (congr (congr rfl (by kernel_rfl)) (fx7 λl o c a p m d=>(b8 (by kernel_rfl) (A6 λq=>(A1 (A1 (A1 (A6 λh=>(A6 λr=>(A1 (A6 λb=>(A6 λt=>(A1 (A1 rfl (A1 (A6 λe=>(A1 (A6 λf=>(A1 (A1 (A1 (A1 rfl (A6 λi=>(u l ((e++[[(SV.int .i64 (A2 (a+b)))]])++f) c (A2 (a+b)) i h d))) rfl) rfl) rfl)) rfl)) rfl)) rfl))) rfl))) rfl) rfl) rfl)))))) rfl))
noncomputable def N4{R:Type}(L n:Nat)(h:By)(a m j f:Int)(g:LL)(i:Int->LL->Option R)(l:By->Int->Int->LL->Option R):Option R:=match n with|0=>none|n+1=>cond (not (ltI a (h.length:Int))) (i 4 g) (cond (inR a h.length) (cond (inR (bAt h a) 256) (vl (C2 (u8n (bAt h a))) λb=>cond (ltI b 0) (i 4 g) (vl (A2 (m+(A2 (b*j)))) λc=>cond (ltI 1099511627776 c) (i 19 g) (cond (ltN f 10000000000) (cond (ltN 72 1000000) (vl (G9 (ab3 (36:Int) f) (72:Int)) λd=>cond (ltI b d) (l h (A2 (a+1)) c g) (vl (A2 ((36:Int)-d)) λe=>cond (ltI 1099511627776 (A2 (j*e))) (i 19 g) (N4 L n h (A2 (a+1)) c (A2 (j*e)) (A2 (f+1)) g i l))) none) none))) none) none)
theorem GY(n c a b w3 kk4 l5):E2 1 ((F0 L).keep 27) (bd (F0 L) Q Y (cd [1,1,1,1,1,1,1,1,1,1,1,0,0,0,1,0,1,0,1,0,0] P7)) n ⟨gp [(0,pS c),(5,.fl 0),(1,pI a),(0,pI (128:Int)),(0,pI b),(0,pI (72:Int)),(0,pB true),(0,pI (0:Int)),(0,pI w3),(0,pI kk4)] 119,[.arr true 3 1 l5],s⟩ k =
 N4 L n c a b w3 kk4 l5 (λn0 e=>k .ret ⟨gp [(2,.fl 1),(0,pI n0)] 131,[.arr true 3 1 e,.arr true 3 1 []],s⟩) (λc a b f=>k (.exit 6) ⟨gp [(0,pS c),(5,.fl 0),(1,pI a),(0,pI (128:Int)),(0,pI b),(1,pB true),(0,pI (0:Int))] 121,[.arr true 3 1 f],s⟩):=by
 induction n generalizing c a b w3 kk4 l5 with
 | zero=>rfl
 | succ n d=>rw[N4];simp only[<-d];kernel_rfl
noncomputable def G2{R:Type}(L n:Nat)(D:By)(m:Int)(C:LL)(A:Int->LL->Option R)(B:LL->LL->Option R)(F:LL->LL->Option R)(G:LL->Option R):Option R:=match n with|0=>none|n+1=>cond (ltI m (D.length:Int)) (N4 L L D m 0 1 0 C (λu o=>A u o) (λz l b a=>vl (A2 (b-0)) λi=>vl (A2 ((a.length:Int)+1)) λe=>cond (ltN i 1152921504606846976) (cond (ltN e 1000000) (cond (ltI 0 e) (vl (↑(K3 (a8 i) (a8 e) true):Int) λv=>vl (A2 ((a.length:Int)+1)) λj=>cond (j !=0) (vl (A2 (o9 b j)) λw=>vl (A2 ((128:Int)+w)) λf=>vl (A2 ((a.length:Int)+1)) λc=>cond (c !=0) (cond (not (ptI f)) (A 2 a) (cond (O2 0 (o8 b c) a.length) (cond (O2 (o8 b c) (a.length:Int) a.length) (cond (F8 (0+(o3 (z7 ((a8 (o8 b c))-0) (aa5 0 a))))) (cond (F8 ((o3 (z7 ((a8 (o8 b c))-0) (aa5 0 a)))+1)) (vl ((z7 ((a8 (o8 b c))-0) (aa5 0 a))++[[(SV.int .i64 f)]]) λh=>cond (F8 (h.length+(o3 (z7 ((a8 (a.length:Int))-(a8 (o8 b c))) (aa5 (a8 (o8 b c)) a))))) (vl (h++(z7 ((a8 (a.length:Int))-(a8 (o8 b c))) (aa5 (a8 (o8 b c)) a))) λd=>cond (ltI 256 (d.length:Int)) (B a d) (vl (A2 ((o8 b c)+1)) λx=>J1 L n z d l f x v a (λy p=>A y p) (λq r=>B q r) (λg t=>F g t))) none) none) none) none) none)) none) none) none) none) none)) (G C)
theorem Py(n s0 at1 l2):E2 1 ((F0 L).keep 23) (bd (F0 L) Q Y (cd [1,1,1,1,1,1,1,1,1,1,1,0,0,0] P7)) n ⟨gp [(0,pS s0),(5,.fl 0),(1,pI at1),(0,pI (128:Int)),(0,pI (0:Int)),(0,pI (72:Int)),(0,pB true)] 122,[.arr true 3 1 l2],s⟩ k =
 G2 L n s0 at1 l2 (λn0 d=>k .ret ⟨gp [(2,.fl 1),(0,pI n0)] 131,[.arr true 3 1 d,.arr true 3 1 []],s⟩) (λl d=>k .ret ⟨gp [(2,.fl 2),(0,pI (3:Int))] 131,[.arr true 3 1 l,.arr false 3 1 d,.arr true 3 1 []],s⟩) (λh d=>k (.exit 4) ⟨gp [(6,.s (.sl false false 1 h))] 128,[.arr true 3 1 d],s⟩) (λl=>k (.exit 4) ⟨gp [(6,.fl 0)] 128,[.arr true 3 1 l],s⟩):=by
 induction n generalizing s0 at1 l2 with
 | zero=>rfl
 | succ n A=>rw[G2];exact(b8 (by kernel_rfl) (A1 ((GY L Q Y s (H4 6 (I1 (F0 L) Q Y (cd [1,1,1,1,1,1,1,1,1,1,1,0,0,0,1,0,1,1] P7) (H4 5 (lpK 1 ((F0 L).keep 23) (bd (F0 L) Q Y (cd [1,1,1,1,1,1,1,1,1,1,1,0,0,0] P7)) n k)))) L s0 at1 0 1 0 l2).trans (congr (congr rfl (by kernel_rfl)) (fx4 λi a m b=>(b8 (by kernel_rfl) (A6 λu=>(A6 λv=>(A1 (A1 (A1 (A6 λe=>(A6 λw=>(A1 (A6 λx=>(A6 λf=>(A6 λy=>(A1 (A1 rfl (A1 (A1 (A1 (A1 (A6 λo=>(A1 (A6 λc=>(A1 rfl (A6 λg=>((GW L Q Y s k n i c a f g e b).trans (congr (congr (congr rfl (fx2 λz p=>rfl)) (fx2 λq r=>rfl)) (fx2 λj t=>rfl)))))) rfl)) rfl) rfl) rfl) rfl)) rfl)))) rfl))) rfl) rfl) rfl))))))) rfl))
noncomputable def QZ{R:Type}(L:Nat)(A:By)(u:Int->LL->Option R)(v:Int->LL->Option R)(y:LL->LL->Option R)(z:LL->LL->Option R):Option R:=cond (ltI 1024 (A.length:Int)) (u 3 []) (Z3 L L A 0 0 (λ_=>u 4 []) (λx e=>Ce L L x e 0 [] (λt a b=>cond (ltI 256 (b.length:Int)) (v 3 b) (cond (ltI 0 a) (vl (A2 (a+1)) λw=>G2 L L t w b (λq f=>v q f) (λg h=>y g h) (λc i=>z c i) (λj=>u 0 j)) (G2 L L t a b (λr l=>v r l) (λm n=>y m n) (λd o=>z d o) (λp=>u 0 p))))))
theorem YC(d:Nat)(s0):evC (F0 L) (d+1) W Y 61 [pS s0] [] s=QZ L s0 (λf c=>some (.tup [.fl 0,pI f],[.arr true 3 1 c],s)) (λf c=>some (.tup [.fl 1,pI f],[.arr true 3 1 c,.arr true 3 1 []],s)) (λl c=>some (.tup [.fl 2,pI (3:Int)],[.arr true 3 1 l,.arr false 3 1 c,.arr true 3 1 []],s)) (λf c=>some (.tup [.s (.sl false false 1 f),pI (0:Int)],[.arr true 3 1 c],s)):=by refine(evE (fn:=ae4) (by kernel_rfl)).trans ?_;generalize evC (F0 L) d=Q;unfold QZ;exact let j:=(H4 4 (I1 (F0 L) Q Y (cd [1,1,1,1,1,1,1,1,1,1,1,1] P7) (K6 (F0 L) ae4)));(b8 (by kernel_rfl) (A1 rfl ((GS L Q Y s (H4 0 (I1 (F0 L) Q Y (cd [1,1,1,1] P7) (K6 (F0 L) ae4))) L s0 0 0).trans (congr (congr rfl (by kernel_rfl)) (fx2 λi a=>(b8 (by kernel_rfl) ((GU L Q Y s (H4 2 (I1 (F0 L) Q Y (cd [1,1,1,1,1,1] P7) (K6 (F0 L) ae4))) L i a 0 []).trans (congr rfl (fx3 λg b e=>(b8 (by kernel_rfl) (A1 rfl (A1 (A6 λh=>((Py L Q Y s j L g h e).trans (by kernel_rfl))) ((Py L Q Y s j L g b e).trans (by kernel_rfl))))))))))))))
noncomputable abbrev PY:Code:=F6 ak0
noncomputable def Er(L:Nat):Cfg:=D1 L [44] (A5 [(6,[0,1,0,1,0])]) [(61,PN),(62,VK)] (A5 [(12,[2]),(11,[0,4,1,0]),(7,[0,2,1,0]),(10,[2]),(9,[0,2,1,0,34]),(8,[0,2,1,0]),(6,[0,2,1,0,12]),(5,[0,2,1,0]),(4,[0,2,1]),(3,[2]),(2,[0,2,11]),(1,[0,2,0]),(0,[0])]) [62] (A5 [(0,[0,2,1]),(1,[0,2,1,0])]) (some [2]) [] [] []
noncomputable def P2{R:Type}(L n:Nat)(a:By)(d:Bool)(b:LL)(e:Bool)(c:Int)(f:Unit->Option R)(g:By->Bool->LL->Bool->Option R):Option R:=match n with|0=>none|n+1=>cond (ltI c (b.length:Int)) (cond e (cond (inR c b.length) (cond (okE Ed b (a8 c) 0) (cond (not (ltI (gE b (a8 c) 0) (65:Int))) (cond (inR c b.length) (cond (okE Ed b (a8 c) 0) (cond (not (ltI 90 (gE b (a8 c) 0))) (f ()) (P2 L n a d b true (A2 (c+1)) f g)) none) none) (P2 L n a d b true (A2 (c+1)) f g)) none) none) (cond (inR c b.length) (cond (okE Ed b (a8 c) 0) (cond (inR c b.length) (cond (okE Ed b (a8 c) 0) (cond (not (ltI (gE b (a8 c) 0) (65:Int))) (cond (inR c b.length) (cond (okE Ed b (a8 c) 0) (cond (not (ltI 90 (gE b (a8 c) 0))) (f ()) (P2 L n a d b (not (ltI (gE b (a8 c) 0) (128:Int))) (A2 (c+1)) f g)) none) none) (P2 L n a d b (not (ltI (gE b (a8 c) 0) (128:Int))) (A2 (c+1)) f g)) none) none) none) none)) (g a d b e)
theorem HA(n c b d a i4):E2 0 ((Er L).keep 6) (bd (Er L) Q Y (cd [1,1,1,1,0,1,0,0] PY)) n ⟨gp [(0,pS c),(2,.s (.sl b b 1 d)),(1,pB a),(0,pI i4)] 50,[],s⟩ k =
 P2 L n c b d a i4 (λ_=>k .ret ⟨gp [(2,pB false)] 54,[],s⟩) (λc b d a=>k (.exit 0) ⟨gp [(0,pS c),(2,.s (.sl b b 1 d)),(1,pB a)] 51,[],s⟩):=by
 induction n generalizing c b d a i4 with
 | zero=>rfl
 | succ n e=>rw[P2];simp only[<-e];kernel_rfl
noncomputable def RA{R:Type}(L:Nat)(a:By)(e:Bool->Option R):Option R:=cond (A7 a.length) (vl (↑((I3 a)).2:Int) λf=>cond (f !=0) (e false) (P2 L L a (y7 ((I3 a)).1) (Qi ((I3 a)).1) false 0 (λ_=>e false) (λc h d b=>cond (u0 d Lb) (vl ((V6 (s7 elI d))).1 λi=>vl (↑((V6 (s7 elI d))).2:Int) λg=>cond (g==0) (cond (i==c) (e b) (e false)) (e false)) none))) none
theorem YE(d:Nat)(rest0):evC (Er L) (d+1) W Y 44 [pS rest0] [] s=RA L rest0 (λb=>some (pB b,[],s)):=by refine(evE (fn:=ak0) (by kernel_rfl)).trans ?_;generalize evC (Er L) d=Q;unfold RA;exact(b8 (by kernel_rfl) (A1 (A6 λa=>(A1 rfl ((HA L Q Y s (H4 0 (I1 (Er L) Q Y (cd [1,1,1,1,1] PY) (K6 (Er L) ak0))) L rest0 (y7 ((I3 rest0)).1) (Qi ((I3 rest0)).1) false 0).trans (by kernel_rfl)))) rfl))
noncomputable abbrev PW:Code:=F6 aj8
noncomputable def Eo(L:Nat):Cfg:=D1 L [25] (A5 [(4,[0,1,0])]) [(44,PO)] (A5 [(9,[2]),(5,[0,2]),(8,[2]),(7,[0,2,52]),(6,[0,2,0]),(4,[0,2,24]),(3,[0,2]),(2,[2]),(1,[0,23]),(0,[0])]) [44] (A5 [(0,[0]),(1,[0,2])]) (some [2]) [] [] []
noncomputable def I5{R:Type}(L n:Nat)(a:By)(b:Int)(c:Unit->Option R)(d:By->Option R):Option R:=match n with|0=>none|n+1=>cond (ltI b (a.length:Int)) (cond (inR b a.length) (cond (not (ltI (bAt a b) (97:Int))) (cond (not (ltI 122 (bAt a b))) (I5 L n a (A2 (b+1)) c d) (cond (not (ltI (bAt a b) (48:Int))) (cond (not (ltI 57 (bAt a b))) (I5 L n a (A2 (b+1)) c d) (cond ((bAt a b)==45) (I5 L n a (A2 (b+1)) c d) (cond (not ((bAt a b)==95)) (c ()) (I5 L n a (A2 (b+1)) c d)))) (cond ((bAt a b)==45) (I5 L n a (A2 (b+1)) c d) (cond (not ((bAt a b)==95)) (c ()) (I5 L n a (A2 (b+1)) c d))))) (cond (not (ltI (bAt a b) (48:Int))) (cond (not (ltI 57 (bAt a b))) (I5 L n a (A2 (b+1)) c d) (cond ((bAt a b)==45) (I5 L n a (A2 (b+1)) c d) (cond (not ((bAt a b)==95)) (c ()) (I5 L n a (A2 (b+1)) c d)))) (cond ((bAt a b)==45) (I5 L n a (A2 (b+1)) c d) (cond (not ((bAt a b)==95)) (c ()) (I5 L n a (A2 (b+1)) c d))))) none) (d a)
theorem GN(n a i1):E2 0 ((Eo L).keep 4) (bd (Eo L) Q Y (cd [1,1,0,1,0,0] PW)) n ⟨gp [(0,pS a),(2,pI i1)] 66,[],s⟩ k =
 I5 L n a i1 (λ_=>k .ret ⟨gp [(2,pB false)] 67,[],s⟩) (λa=>k (.exit 0) ⟨gp [(0,pS a)] 69,[],s⟩):=by
 induction n generalizing a i1 with
 | zero=>rfl
 | succ n b=>rw[I5];simp only[<-b];kernel_rfl
noncomputable def QX{R:Type}(L:Nat)(c:By)(b:Bool->Option R):Option R:=cond (c==[]) (b false) (cond (ltI 63 (c.length:Int)) (b false) (cond (inR 0 c.length) (cond ((bAt c (0:Int))==45) (b false) (vl (A2 ((c.length:Int)-1)) λd=>cond (inR d c.length) (cond ((bAt c d)==45) (b false) (I5 L L c 0 (λ_=>b false) (λa=>cond (ltI (a.length:Int) (4:Int)) (b true) (cond (O2 0 (4:Int) a.length) (vl (cut a 0 (4:Int)) λf=>cond (not (f==[120,110,45,45])) (b true) (cond (O2 4 (a.length:Int) a.length) (vl (cut a 4 (a.length:Int)) λe=>cond (A7 e.length) (b (Y3 e)) none) none)) none)))) none)) none))
theorem XY(d:Nat)(s0):evC (Eo L) (d+1) W Y 25 [pS s0] [] s=QX L s0 (λb=>some (pB b,[],s)):=by refine(evE (fn:=aj8) (by kernel_rfl)).trans ?_;generalize evC (Eo L) d=Q;unfold QX;exact(b8 (by kernel_rfl) (A1 rfl (A1 rfl (A1 (A1 rfl (A6 λa=>(A1 (A1 rfl ((GN L Q Y s (H4 0 (I1 (Eo L) Q Y (cd [1,1,1] PW) (K6 (Eo L) aj8))) L s0 0).trans (by kernel_rfl))) rfl))) rfl))))
end
theorem GZ{R:Type}{a:Bool->Option R}(n:Int):CH LF n a=a (ptI n):=by
 unfold CH;by_cases h:n<0
 ·rw[C6 h];have:ptI n=false:=by
   cases n with
   | ofNat m=>exact absurd h (by simp)
   | negSucc m=>rfl
  grind
 ·obtain⟨m,rfl⟩:=o0 (show 0<=n by omega);rw[A4,Fe];unfold Bq;by_cases b:1114111<m
  ·rw[A8];have:j6 m 1114111=false:=by rw[j4,ne_eq,j9];omega
   grind
  ·rw[A4];have:j6 m 1114111=true:=by rw[j9];omega
   rw[this];by_cases c:m<55296
   ·rw[A8];have:Nat.blt m 55296=true:=by rw[Nat.blt_eq];omega
    grind
   ·rw[A4];have e:Nat.blt m 55296=false:=by rw[j4,ne_eq,Nat.blt_eq];omega
    rw[e];simp only[j1,cond_true,cond_false,v8,r9]
    congr 1
theorem FZ{R:Type}{k0:Int->Int->Option R}:∀(d n k:Nat),d<2305843009213693952->d<n->k+d<=4611686018427387904->
  ∃a b,a<=455/\b<=k+d/\Ni d k=b+36*a / (a+38)/\Bb LF n (d:Int) (k:Int) k0=k0 (a:Int) (b:Int):=by
 intro d
 induction d using ag3 with
 | _ d l=>
  intro n k p r q;obtain⟨n,rfl⟩:∃m,n=m+1:=⟨n-1,by omega⟩
  rw[Bb];by_cases h:455<d
  ·obtain⟨a,b,g,o,i,j⟩:=l (d / 35) (by omega) n (k+36) (by omega) (by omega) (by omega);refine⟨a,b,g,by omega,by rw[Ry h];exact i,?_⟩;have e:o9 (d:Int) 35=((d / 35:Nat):Int):=I6 d 35;have c:A2 ((d / 35:Nat):Int)=((d / 35:Nat):Int):=A3;have f:A2 ((k:Int)+36)=((k+36:Nat):Int):=by rw[A3];rfl
   rw[A8];simp only[cond_true,vl,e,c,f];exact j
  ·refine⟨d,k,by omega,by omega,Jg h,?_⟩;rw[A4];rfl
theorem GA{R:Type}{k0:Int->Option R}(d c:Int)(f:Bool)(z:ltN d 1152921504606846976=true)(A:ltN c 1000000=true)(B:ltI 0 c=true):Um LF d c f k0=k0 (K3 d.toNat c.toNat f:Nat):=by
 obtain⟨k,F⟩:=J7.1 z;obtain⟨j,D⟩:=J7.1 A;obtain⟨d,rfl⟩:=o0 k;obtain⟨c,rfl⟩:=o0 j;have J:=QM.1 B;have C:=G7;have key:∀x:Nat,x<1152921504606846976->Ba LF (x:Int) (c:Int) k0=k0 ((Ni (x+x / c) 0:Nat):Int):=by
  intro x L;have G:x / c<=x:=s8 _ _;unfold Ba;have g:o9 (x:Int) (c:Int)=((x / c:Nat):Int):=I6 x c;generalize x / c=q at *;have h:A2 (q:Int)=(q:Int):=A3;have o:A2 ((x:Int)+(q:Int))=((x+q:Nat):Int):=by rw[A3];rfl
  rw[show((c:Int)!=0)=true by simp;omega];simp only[cond_true,vl,g,h,o];obtain⟨a,n,H,I,w,y⟩:=FZ (R:=R) (k0:=λb l=>vl (A2 ((36)*b)) λm=>vl (A2 (b+(38))) λe=>cond (e !=(0)) (vl (A2 (o9 m e)) λi=>k0 (A2 (l+i))) none) (x+q) LF 0 (by omega) (by omega) (by omega);refine b8 y ?_;have K:36*a / (a+38)<=36*a:=s8 _ _;have p:A2 (36*(a:Int))=((36*a:Nat):Int):=by rw[A3];rfl
  have r:A2 ((a:Int)+38)=((a+38:Nat):Int):=by rw[A3];rfl
  have t:o9 ((36*a:Nat):Int) ((a+38:Nat):Int)=((36*a / (a+38):Nat):Int):=I6 _ _;have u:A2 ((36*a / (a+38):Nat):Int)=((36*a / (a+38):Nat):Int):=A3;have v:A2 ((n:Int)+((36*a / (a+38):Nat):Int))=((n+36*a / (a+38):Nat):Int):=by rw[A3];rfl
  simp only[vl,p,r,t,u,v];rw[show(((a+38:Nat):Int)!=0)=true by simp;omega,w];rfl
 unfold Um K3;rw[a7,a7];cases f with
 | true=>
  have g:o9 (d:Int) 700=((d / 700:Nat):Int):=I6 d 700;have h:A2 ((d / 700:Nat):Int)=((d / 700:Nat):Int):=A3;simp only[cond_true,vl,g,h,if_true];exact key _ (by omega)
 | false=>
  have g:o9 (d:Int) 2=((d / 2:Nat):Int):=I6 d 2;have h:A2 ((d / 2:Nat):Int)=((d / 2:Nat):Int):=A3;simp only[cond_false,vl,g,h,aa7,if_false];exact key _ (by omega)
theorem MS{R:Type}{b:Int->Option R}(d:Int)(c:ltN d 36=true):QU LF d b=b ((Q5 d.toNat).toNat:Nat):=by
 obtain⟨a,e⟩:=J7.1 c;obtain⟨d,rfl⟩:=o0 a;unfold QU;rw[a7,Ws (by omega)];by_cases h:d<26
 ·rw[A8,if_pos h];simp only[cond_true,vl]
  congr 1
  rw[A3,W0];rfl
 ·rw[A4,if_neg h];simp only[cond_false,vl]
  congr 1
  rw[G6 (n:=48+(d:Int)) (by omega) (by omega),A3,W0];omega
theorem UF{R:Type}{g:Int->Option R}(b:Int)(h:inR b 256=true):YG LF b g=g (C2 (u8n b)):=by
 simp only[inR,p9,decide_eq_true_eq] at h;have j:b=((u8n b).toNat:Int):=by
  unfold u8n;simp;omega
 generalize u8n b=c at *;subst j;have i:=c.toNat_lt;unfold YG C2;simp only[Me,Md,vl];rcases Qc c with⟨d,f,e⟩|⟨d,f,e⟩|⟨d,f,e⟩|⟨d,f,o,e⟩
 ·have a:A2 (wu8 ((c.toNat:Int)-97))=((c.toNat-97:Nat):Int):=by
   rw[W0,A3];omega
  simp (disch:=omega) only[C6,F3,j5,j1,cond_false,cond_true,a,e]
 ·have a:A2 (wu8 ((c.toNat:Int)-65))=((c.toNat-65:Nat):Int):=by
   rw[W0,A3];omega
  simp (disch:=omega) only[C6,F3,j5,j1,cond_false,cond_true,a,e]
 ·have a:A2 (A2 (wu8 ((c.toNat:Int)-48))+26)=((c.toNat-22:Nat):Int):=by
   rw[W0,G6 (n:=(c.toNat:Int)-48) (by omega) (by omega),A3];omega
  simp (disch:=omega) only[C6,F3,j5,j1,cond_false,cond_true,a,e]
 ·rw[e];by_cases k:c.toNat<48
  ·simp (disch:=omega) only[C6,F3,j5,j1,cond_false,cond_true]
  ·by_cases l:c.toNat<65
   ·simp (disch:=omega) only[C6,F3,j5,j1,cond_false,cond_true]
   ·by_cases m:c.toNat<97
    ·simp (disch:=omega) only[C6,F3,j5,j1,cond_false,cond_true]
    ·simp (disch:=omega) only[C6,F3,j5,j1,cond_false,cond_true]
theorem UE{R:Type}{a:Int->Option R}(k b:Int)(c:ltN k 10000000000=true)(d:ltN b 1000000=true):Af9 LF k b a=a (G9 (ab3 36 k) b):=by obtain⟨j,l⟩:=J7.1 c;obtain⟨e,f⟩:=J7.1 d;unfold Af9 G9;have g:A2 (k+1)=k+1:=A3;have h:A2 ((36:Int)*(k+1))=36*(k+1):=A3;have i:A2 (36*(k+1)-b)=36*(k+1)-b:=A3;grind
theorem XV(z t:Bool)(c:LL)(done a u delta i:Int)(b:Nat)(V:b<1000000):∀(r q k n:Nat) (l:LL),q<10 ^ r->q<1152921504606846976->k+r<=1000->r<n->l.length+r<=200000->
  ∃(d:Nat) (pre:By),d<36/\J5 q k b=pre++[Q5 d]/\∀(R:Type) (g:Bool->Bool->LL->Int->Int->Int->Int->Int->Int->LL->Option R),Ak LF n z t c done a u delta (b:Int) i (q:Int) (k:Int) l g=g z t c done a u delta i (d:Int) (l++pre.map E5):=by
 have f:∀k:Nat,G9 (ab3 36 (k:Int)) (b:Int)=(thr k b:Int):=λk=>by
  rw[show ab3 36 (k:Int)=((36*k:Nat):Int) from rfl,Mn]
 have j:∀(q k n:Nat) (l:LL),q<thr k b->k<=1000->∃(d:Nat) (pre:By),d<36/\J5 q k b=pre++[Q5 d]/\∀(R:Type) (g:Bool->Bool->LL->Int->Int->Int->Int->Int->Int->LL->Option R),Ak LF (n+1) z t c done a u delta (b:Int) i (q:Int) (k:Int) l g=g z t c done a u delta i (d:Int) (l++pre.map E5):=by
  intro q k n l p v;have x:=N6 k b;refine⟨q,[],by omega,by rw[Hu p];rfl,λR g=>?_⟩;rw[Ak];have o:ltI (q:Int) (thr k b:Int)=true:=A8;rw[J8,J8,f];grind
 intro r
 induction r with
 | zero=>
  intro q k n l h _ v Q O;have x:=N6 k b;obtain⟨n,rfl⟩:∃m,n=m+1:=⟨n-1,by omega⟩
  exact j q k n l (by simp at h;omega) (by omega)
 | succ r S=>
  intro q k n l h w v Q O;have x:=N6 k b;obtain⟨n,rfl⟩:∃m,n=m+1:=⟨n-1,by omega⟩
  by_cases p:q<thr k b
  ·exact j q k n l p (by omega)
  ·have M:(q-thr k b) / (36-thr k b)<10 ^ r:=AQ (by omega) (by rw[ae2] at h;omega);have N:(q-thr k b) / (36-thr k b)<=q:=ai4 (s8 _ _) (by omega);have P:(q-thr k b) % (36-thr k b)<36-thr k b:=aa8 _ (by omega);obtain⟨d,pre,K,L,e⟩:=S ((q-thr k b) / (36-thr k b)) (k+1) n (l++[E5 (Q5 (thr k b+(q-thr k b) % (36-thr k b)))]) M (by omega) (by omega) (by omega) (by rw[j2,h9];omega);refine⟨d,Q5 (thr k b+(q-thr k b) % (36-thr k b))::pre,K,by rw[Nw p,L];rfl,λR g=>?_⟩;rw[Ak];have y:A2 ((q:Int)-(thr k b:Int))=((q-thr k b:Nat):Int):=by rw[A3];omega
   have C:A2 ((36:Int)-(thr k b:Int))=((36-thr k b:Nat):Int):=by rw[A3];omega
   have D:o8 ((q-thr k b:Nat):Int) ((36-thr k b:Nat):Int)=(((q-thr k b) % (36-thr k b):Nat):Int):=Ef _ _;have F:o9 ((q-thr k b:Nat):Int) ((36-thr k b:Nat):Int)=(((q-thr k b) / (36-thr k b):Nat):Int):=I6 _ _;have I:((((36-thr k b:Nat):Int))!=0)=true:=by rw[bne_iff_ne];omega
   have J:A2 ((k:Int)+1)=((k+1:Nat):Int):=by rw[A3];rfl
   have o:ltI (q:Int) (thr k b:Int)=false:=A4;rw[J8,J8,f];simp only[vl,o,y,C,D,F,I,J,cond_true,cond_false,j1];generalize T:(q-thr k b) / (36-thr k b)=A at *;generalize U:(q-thr k b) % (36-thr k b)=B at *;have G:A2 ((thr k b:Int)+(B:Int))=((thr k b+B:Nat):Int):=by rw[A3];rfl
   have H:A2 (A:Int)=(A:Int):=A3;rw[G,H,J8,E9 (by omega),a7];refine b8 (e R g) ?_;simp[w8,E5]
theorem Af2(z t:Bool)(c:List Nat)(a m:Nat)(Z:m<=1114112)(Y:c.length<=256):∀(r i n:Nat) (s:DA),i+r=c.length->r<n->s.delta+r<=1000000000000->s.bias<=500->s.out.length+20*r<=90000->s.done+r<=1000->a<=256->
  (∀(R:Type) (d:Bool->Bool->LL->Int->Int->Int->Int->Int->LL->Option R),Q9 LF n z t (B4 c) (s.done:Int) (a:Int) (m:Int) (s.delta:Int) (s.bias:Int) (i:Int) (s.out.map E5) d =
   d z t (B4 c) ((E6 m a (c.drop i) s).done:Int) (a:Int) (m:Int) ((E6 m a (c.drop i) s).delta:Int) ((E6 m a (c.drop i) s).bias:Int) ((E6 m a (c.drop i) s).out.map E5))/\
  (E6 m a (c.drop i) s).bias<=500/\(E6 m a (c.drop i) s).out.length<=s.out.length+20*(c.drop i).countP (· == m)/\(E6 m a (c.drop i) s).done=s.done+(c.drop i).countP (· == m)/\
  (E6 m a (c.drop i) s).delta<=(if 0<(c.drop i).countP (· == m) then r else s.delta+r):=by
 have S:=G7;intro r
 induction r with
 | zero=>
  intro i n s T U O B P Q C;obtain⟨n,rfl⟩:∃m,n=m+1:=⟨n-1,by omega⟩
  rw[b7 (by omega)];refine⟨λR d=>?_,B,by simp[E6],by simp[E6],by simp[E6]⟩;rw[Q9];rw[C0,A4];rfl
 | succ r H=>
  intro i n s T U O B P Q C;obtain⟨n,rfl⟩:∃m,n=m+1:=⟨n-1,by omega⟩
  rw[Kt c i (by omega)];have F:=Ob c i (by omega);have ok:=Ib (l:=c) (i:=i) (by omega);have e:inR (i:Int) (B4 c).length=true:=M5 (by omega) (by rw[C0];omega);have f:ltI (i:Int) ((B4 c).length:Int)=true:=C6 (by rw[C0];omega);generalize c.getD i 0=p at *;have A:A2 ((i:Int)+1)=((i+1:Nat):Int):=by rw[A3];rfl
  have M:A2 ((s.delta:Int)+1)=((s.delta+1:Nat):Int):=by rw[A3];rfl
  have I:A2 ((s.done:Int)+1)=((s.done+1:Nat):Int):=by rw[A3];rfl
  by_cases G:p<m
  ·have g:(p==m)=false:=by rw[beq_eq_false_iff_ne];omega
   have u:E6 m a (p::c.drop (i+1)) s=E6 m a (c.drop (i+1)) { s with delta:=s.delta+1 }:=by rw[E6,if_pos G]
   obtain⟨v,w,x,y,h⟩:=H (i+1) n { s with delta:=s.delta+1 } (by omega) (by omega) (by simp only;omega) B (by simp only;omega) (by simp only;omega) C;rw[u,u5 (by rw[g];simp)];refine⟨λR d=>?_,w,x,y,?_⟩
   ·rw[Q9];rw[a7];simp only[e,f,ok,cond_true,vl,F,A,M];rw[A8,cond_true,show((p:Int)!=(m:Int))=true by rw[bne_iff_ne];omega,cond_true];exact v R d
   ·simp only at h;split at h<;>split<;>omega
  ·by_cases L:p=m
   ·subst L;have K:=Wu (q:=s.delta) (k:=0) (b:=s.bias) (by omega);have D:=Gh s.delta (s.done+1) (s.done==a) (by omega);have u:E6 p a (p::c.drop (i+1)) s=E6 p a (c.drop (i+1)) { delta:=0,bias:=K3 s.delta (s.done+1) (s.done==a),done:=s.done+1,out:=s.out++J5 s.delta 0 s.bias }:=by rw[E6,if_neg G,if_pos rfl]
    obtain⟨v,w,x,y,h⟩:=H (i+1) n { delta:=0,bias:=K3 s.delta (s.done+1) (s.done==a),done:=s.done+1,out:=s.out++J5 s.delta 0 s.bias } (by omega) (by omega) (by simp only;omega) D (by simp only[j2];omega) (by simp only;omega) C;obtain⟨W,pre,X,J,N⟩:=XV z t (B4 c) (s.done:Int) (a:Int) (p:Int) (s.delta:Int) (i:Int) s.bias (by omega) 19 s.delta 0 LF (s.out.map E5) (by omega) (by omega) (by omega) (by omega) (by rw[j3];omega);rw[u,ab6 (by simp)];refine⟨λR d=>?_,w,?_,?_,?_⟩
    ·rw[Q9];have j:((s.done:Int)==(a:Int))=(s.done==a):=by
      rw[ag0,beq_iff_eq,beq_iff_eq];omega
     rw[a7];simp only[e,f,ok,cond_true,vl,F,A,I];rw[A4,cond_false,bne_self_eq_false,cond_false];refine b8 (N R _) ?_;have V:pre.length+1=(J5 s.delta 0 s.bias).length:=by rw[J];simp
     rw[J8,a7,E9 (by rw[j2,j3,j3];omega)];simp only[vl,cond_true,A,I];rw[J8,J8,A8,j];simp only[cond_true,a7];have o:s.out.map E5++pre.map E5++[[SV.int .u8 (((Q5 W).toNat:Nat):Int)]]=(s.out++J5 s.delta 0 s.bias).map E5:=by
      rw[J,x7,x7,w8];rfl
     rw[o];exact v R d
    ·simp only[j2] at x;omega
    ·simp only at y;omega
    ·simp only at h;rw[Th];split at h<;>omega
   ·have g:(p==m)=false:=by rw[beq_eq_false_iff_ne];omega
    have u:E6 m a (p::c.drop (i+1)) s=E6 m a (c.drop (i+1)) s:=by rw[E6,if_neg G,if_neg L]
    obtain⟨v,w,x,y,h⟩:=H (i+1) n s (by omega) (by omega) (by omega) B (by omega) (by omega) C;rw[u,u5 (by rw[g];simp)];refine⟨λR d=>?_,w,x,y,?_⟩
    ·rw[Q9];rw[a7];simp only[e,f,ok,cond_true,vl,F,A];rw[A4,cond_false,show((p:Int)!=(m:Int))=true by rw[bne_iff_ne];omega,cond_true];exact v R d
    ·split at h<;>split<;>omega
theorem NH{R:Type}{k0:Bool->Bool->LL->Int->Int->Int->Int->Int->Int->LL->Option R}(z t:Bool)(a:List Nat)(q:a.length<=256)(n0:Nat)(b delta c done:Int)(l:LL):∀(r i n m:Nat),i+r=a.length->r<n->
  Cs LF n z t (B4 a) done b (n0:Int) delta c (m:Int) (i:Int) l k0=k0 z t (B4 a) done b (n0:Int) delta c ((F7 n0 (a.drop i) m:Nat):Int) l:=by
 intro r
 induction r with
 | zero=>
  intro i n m k o;obtain⟨n,rfl⟩:∃m,n=m+1:=⟨n-1,by omega⟩
  rw[Cs];rw[C0,A4,b7 (by omega)];rfl
 | succ r f=>
  intro i n m k o;obtain⟨n,rfl⟩:∃m,n=m+1:=⟨n-1,by omega⟩
  have j:=Ob a i (by omega);have ok:=Ib (l:=a) (i:=i) (by omega);have d:inR (i:Int) (B4 a).length=true:=M5 (by omega) (by rw[C0];omega);have e:ltI (i:Int) ((B4 a).length:Int)=true:=C6 (by rw[C0];omega);rw[Cs,Kt a i (by omega)];generalize a.getD i 0=p at *;have g:A2 ((i:Int)+1)=((i+1:Nat):Int):=by rw[A3];rfl
  rw[a7];simp only[d,e,ok,cond_true,vl,j,g,F7];by_cases h:n0<=p
  ·rw[if_pos h,A4,j1,cond_true];have:(if (p:Int)<(m:Int) then (p:Int) else (m:Int))=((min m p:Nat):Int):=by split<;>omega
   rw[this];exact f (i+1) n (min m p) (by omega) (by omega)
  ·rw[if_neg h,A8,j5,cond_false];exact f (i+1) n m (by omega) (by omega)
theorem XW(z t:Bool)(a:List Nat)(b:Nat)(B:a.length<=256)(T:b<=256)(i:∀p∈a,p<=1114111):∀(f n d:Nat) (s:DA),s.done=a.countP (λp=>decide (p<n))->a.length<=s.done+f->f<d->s.delta<=300->s.bias<=500->s.out.length+20*(a.length-s.done)<=80000->n<=1114112->
  ∀(R:Type) (k0:LL->Option R),Al LF d z t (B4 a) (s.done:Int) (b:Int) (n:Int) (s.delta:Int) (s.bias:Int) (s.out.map E5) k0=k0 ((Q3 a b f n s).out.map E5):=by
 intro f;have S:=G7
 induction f with
 | zero=>
  intro n d s V X Y O y P Q R k0;obtain⟨d,rfl⟩:∃m,d=m+1:=⟨d-1,by omega⟩
  rw[Al];rw[C0,A4];rfl
 | succ f Z=>
  intro n d s V X Y O y P Q R k0;obtain⟨d,rfl⟩:∃m,d=m+1:=⟨d-1,by omega⟩
  rw[Al];rw[C0];have U:a.countP (λp=>decide (p<n))<=a.length:=p7;by_cases o:s.done<a.length
  ·obtain⟨v,g,q⟩:=WC (n:=n) (l:=a) (by omega);obtain⟨g1,g2,x⟩:=Cn n a 1114112;obtain⟨D,F,w⟩:=Cn n a 1073741824;have g4:=x v g q;have G:=w v g q;have g5:=i v g;have e:F7 n a 1114112∈a/\n<=F7 n a 1114112:=by grind
   have h:F7 n a 1073741824∈a/\n<=F7 n a 1073741824:=by grind
   have heq:F7 n a 1073741824=F7 n a 1114112:=by grind
   have W:Q3 a b (f+1) n s=Q3 a b f (F7 n a 1114112+1) { E6 (F7 n a 1114112) b a { s with delta:=s.delta+(F7 n a 1114112-n)*(s.done+1) } with delta:=(E6 (F7 n a 1114112) b a { s with delta:=s.delta+(F7 n a 1114112-n)*(s.done+1) }).delta+1 }:=by
    rw[Q3,if_pos o]
   rw[W,A8,cond_true];have c:=λ(K:Bool->Bool->LL->Int->Int->Int->Int->Int->Int->LL->Option R)=>NH (k0:=K) z t a B n (b:Int) (s.delta:Int) (s.bias:Int) (s.done:Int) (s.out.map E5) a.length 0 LF 1073741824 (by omega) (by omega)
   rw[k9,heq] at c;refine b8 (c _) ?_;clear c heq D F w G h;generalize F7 n a 1114112=m at *;have C:(m-n)*(s.done+1)<=1114112*256:=ag7 (by omega) (by omega);have H:A2 ((s.done:Int)+1)=((s.done+1:Nat):Int):=by rw[A3];rfl
   have I:A2 ((m:Int)-(n:Int))=((m-n:Nat):Int):=by rw[A3];omega
   have J:A2 (((m-n:Nat):Int)*((s.done+1:Nat):Int))=(((m-n)*(s.done+1):Nat):Int):=by
    rw[<-ag1];exact A3
   have L:A2 ((s.delta:Int)+(((m-n)*(s.done+1):Nat):Int))=((s.delta+(m-n)*(s.done+1):Nat):Int):=by
    rw[A3];rfl
   simp only[vl,H,I,J,L];have k:=Af2 z t a b m (by omega) B a.length 0 LF { s with delta:=s.delta+(m-n)*(s.done+1) } (by omega) (by omega) (by simp only;omega) y (by simp only;omega) (by simp only;omega) T;rw[k9] at k;obtain⟨q1,q2,q3,q4,q5⟩:=k;refine b8 (q1 R _) ?_;have j:0<a.countP (· == m):=ad5.2 ⟨m,e.1,by simp⟩;rw[if_pos j] at q5;have u:=Ss e.2 a x;generalize E6 m b a { s with delta:=s.delta+(m-n)*(s.done+1) } = r at *;simp only at q3 q4;have M:A2 ((r.delta:Int)+1)=((r.delta+1:Nat):Int):=by rw[A3];rfl
   have N:A2 ((m:Int)+1)=((m+1:Nat):Int):=by rw[A3];rfl
   have A:a.countP (λp=>decide (p<m+1))<=a.length:=p7;simp only[M,N];exact Z (m+1) d { r with delta:=r.delta+1 } (by simp only;omega) (by simp only;omega) (by omega) (by simp only;omega) q2 (by simp only;omega) (by omega) R k0
  ·rw[A4];rw[Q3,if_neg o];rfl
theorem NC(z t:Bool)(P:List Int)(C:P.length<=256):∀(r i n:Nat) (out:By),i+r=P.length->r<n->out.length+r<=1000->
  ((P.drop i).all ptI=true->∀(R:Type) (a:LL->Option R) (b:Bool->Bool->LL->LL->Option R),M9 LF n z t (R1 P) (i:Int) (out.map E5) a b=b z t (R1 P) ((out++N7 (P.drop i)).map E5))/\
  ((P.drop i).all ptI=false->∃l,∀(R:Type) (a:LL->Option R) (b:Bool->Bool->LL->LL->Option R),M9 LF n z t (R1 P) (i:Int) (out.map E5) a b=a l):=by
 intro r
 induction r with
 | zero=>
  intro i n out w y A;obtain⟨n,rfl⟩:∃m,n=m+1:=⟨n-1,by omega⟩
  rw[b7 (by omega)];refine⟨λ_ R a b=>?_,λh=>(by cases h)⟩;rw[M9];rw[N1,A4];simp[N7]
 | succ r v=>
  intro i n out w y A;obtain⟨n,rfl⟩:∃m,n=m+1:=⟨n-1,by omega⟩
  have o:=KQ P i (by omega);have ok:=BJ (l:=P) (i:=i) (by omega);have f:inR (i:Int) (R1 P).length=true:=M5 (by omega) (by rw[N1];omega);have g:ltI (i:Int) ((R1 P).length:Int)=true:=C6 (by rw[N1];omega);rw[EK P i (by omega)];generalize P.getD i 0=x at *;have u:A2 ((i:Int)+1)=((i+1:Nat):Int):=by rw[A3];rfl
  cases j:ptI x with
  | false=>
   refine⟨λh=>?_,λ_=>⟨out.map E5,λR a b=>?_⟩⟩
   ·rw[s5,j] at h;cases h
   ·rw[M9];rw[a7];simp only[f,g,ok,cond_true,vl,o,j,j1]
  | true=>
   obtain⟨B,D⟩:=Jv j;rw[s5,j,r9];by_cases c:x<128
   ·have d:N7 (x::P.drop (i+1))=s9 x.toNat::N7 (P.drop (i+1)):=by
     unfold N7;rw[ab8 (by simpa using c)];rfl
    have k:out.map E5++[[SV.int .u8 (wu8 x)]]=(out++[s9 x.toNat]).map E5:=by rw[YX x B c];simp
    obtain⟨p,q⟩:=v (i+1) n (out++[s9 x.toNat]) (by omega) (by omega) (by simp;omega);have step:∀(R:Type) (a:LL->Option R) (b:Bool->Bool->LL->LL->Option R),M9 LF (n+1) z t (R1 P) (i:Int) (out.map E5) a b=M9 LF n z t (R1 P) ((i+1:Nat):Int) ((out++[s9 x.toNat]).map E5) a b:=by
     intro R a b;rw[M9];rw[a7];simp only[f,g,ok,cond_true,vl,o,j,j5,cond_false,u];rw[C6 c,j3,E9 (by omega),k];rfl
    refine⟨λh R a b=>?_,λh=>?_⟩
    ·rw[step,p h,d];simp
    ·obtain⟨l,e⟩:=q h;exact⟨l,λR a b=>by rw[step];exact e R a b⟩
   ·have d:N7 (x::P.drop (i+1))=N7 (P.drop (i+1)):=by
     unfold N7;rw[ab7 (by simpa using c)]
    obtain⟨p,q⟩:=v (i+1) n out (by omega) (by omega) (by omega);have step:∀(R:Type) (a:LL->Option R) (b:Bool->Bool->LL->LL->Option R),M9 LF (n+1) z t (R1 P) (i:Int) (out.map E5) a b=M9 LF n z t (R1 P) ((i+1:Nat):Int) (out.map E5) a b:=by
     intro R a b;rw[M9];rw[a7];simp only[f,g,ok,cond_true,vl,o,j,j5,cond_false,u];rw[A4];rfl
    refine⟨λh R a b=>?_,λh=>?_⟩
    ·rw[step,p h,d]
    ·obtain⟨l,e⟩:=q h;exact⟨l,λR a b=>by rw[step];exact e R a b⟩
theorem ND(z t:Bool)(P:List Int):(V6 P=([],3)/\∀(R:Type) (b:Unit->Option R) (f:By->Int->LL->Option R),GC LF z t (R1 P) b f=b ())\/
  (∃l,∀(R:Type) (b:Unit->Option R) (f:By->Int->LL->Option R),GC LF z t (R1 P) b f=f (V6 P).1 ((V6 P).2:Nat) l):=by
 have x:=G7;by_cases i:256<P.length
 ·refine .inl ⟨by unfold V6;rw[if_pos i],λR b f=>?_⟩;unfold GC;rw[N1,A8];rfl
 ·right
  obtain⟨v,w⟩:=NC z t P (by omega) P.length 0 LF [] (by omega) (by omega) (by simp;omega);rw[k9] at v w;cases g:P.all ptI with
  | false=>
   obtain⟨l,e⟩:=w g;refine⟨l,λR b f=>?_⟩;unfold GC;rw[N1,A4,cond_false];refine b8 (e R _ _) ?_;unfold V6;rw[if_neg i,g];rfl
  | true=>
   obtain⟨a,rfl,A,m⟩:=QT g;rw[j3] at i;have k:V6 (a.map λn:Nat=>(n:Int))=Im a:=by
    unfold V6;rw[j3,if_neg i,g];simp[ab2]
   have j:=Se a;have y:a.countP (λp=>decide (p<128))<=a.length:=p7;have main:∀(o:By),o.length<=300->∀(R:Type) (b:LL->Option R),Al LF LF z t (B4 a) ((E4 a).length:Int) ((E4 a).length:Int) 128 0 72 (o.map E5) b=b ((Q3 a (E4 a).length 256 128 { delta:=0,bias:=72,done:=(E4 a).length,out:=o }).out.map E5):=by
    intro o B R b;exact XW z t a (E4 a).length (by omega) (by omega) m 256 128 LF { delta:=0,bias:=72,done:=(E4 a).length,out:=o } j (by simp only;omega) (by omega) (by simp) (by simp) (by simp only;omega) (by omega) R b
   have d:Im a=((Q3 a (E4 a).length 256 128 { delta:=0,bias:=72,done:=(E4 a).length,out:=if (E4 a).isEmpty then [] else E4 a++[45] }).out,0):=by
    unfold Im;grind
   refine⟨(Im a).1.map E5,λR b f=>?_⟩;unfold GC;rw[N1,j3,A4,cond_false,k];have r:=v g R;refine b8 (r _ _) ?_;rw[u9,Sf,Hz];simp only[vl,j3];by_cases c:E4 a=[]
   ·rw[c,u3,A4,cond_false];have q:=main [] (by simp) R;rw[c,u3] at q;rw[ac3] at q;refine b8 (q _) ?_;rw[c] at d;rw[d];simp only[af1,if_true,u3];rw[Kh,Lg];rfl
   ·have u:0<(E4 a).length:=x4.2 c;rw[A8,cond_true,E9 (by omega),cond_true];have h:(E4 a).map E5++[[SV.int .u8 (45:Int)]]=(E4 a++[45]).map E5:=by rw[x7];rfl
    rw[h];refine b8 (main (E4 a++[45]) (by simp;omega) R _) ?_;rw[d,if_neg (by simpa using c)];rw[Kh,Lg];rfl
theorem Af3(z t:Bool)(p:LL)(b:p.all Lb=true):∃r H,GC LF z t p (λ_=>rv (.tup [.s (.str []),.s (.int .i64 3)]) []) (λd e l=>rv (.tup [.s (.str d),.s (.int .i64 e)]) [.arr true 5 1 l])=rv r H/\
  r.stab [0,0] H = .tup [.s (.str (V6 (p.map elI)).1),.s (.int .i64 ((V6 (p.map elI)).2:Nat))]:=by
 obtain⟨P,rfl⟩:=QG b;rw[EL];rcases ND z t P with⟨c,a⟩|⟨l,a⟩
 ·exact⟨_,_,a _ _ _,by rw[c];rfl⟩
 ·exact⟨_,_,a _ _ _,rfl⟩
theorem OC{R:Type}{k0:Unit->Option R}{k1:By->Int->Option R}(s:By)(k:s.length<=1000000):∀(r i n cut:Nat),i+r=s.length->r<n->
  Z3 LF n s (cut:Int) (i:Int) k0 k1=if (s.drop i).any (λb=>j6 128 b.toNat) then k0 () else k1 s ((if 45∈s.drop i then i+D5 (s.drop i) else cut:Nat):Int):=by
 intro r
 induction r with
 | zero=>
  intro i n cut g j;obtain⟨n,rfl⟩:∃m,n=m+1:=⟨n-1,by omega⟩
  rw[Z3];rw[A4,b7 (by omega)];rfl
 | succ r d=>
  intro i n cut g j;obtain⟨n,rfl⟩:∃m,n=m+1:=⟨n-1,by omega⟩
  rw[Z3];have e:A2 ((i:Int)+1)=((i+1:Nat):Int):=by rw[A3];rfl
  rw[A8,K7,L5,K2 s i (by omega),e,x5];simp only[cond_true];generalize s.getD i 0=b;by_cases h:128<=b.toNat
  ·rw[A4,w6 h];rfl
  ·have:j6 128 b.toNat=false:=by rw[j4,ne_eq,j9];exact h
   rw[A8,this,v8,j5,cond_false];have f:((b.toNat:Int)==45)=(b==45):=R9 b 45 (by omega);rw[f];by_cases a:b=45
   ·subst a;rw[show((45:UInt8)==45)=true from rfl,cond_true];refine(d (i+1) n i (by omega) (by omega)).trans ?_;have c:(45:UInt8)∈45::s.drop (i+1):=by simp
    rw[if_pos c];have:(if (45:UInt8)∈s.drop (i+1) then i+1+D5 (s.drop (i+1)) else i)=i+D5 (45::s.drop (i+1)):=by
     rw[D5];grind
    rw[this]
   ·rw[show(b==45)=false from beq_eq_false_iff_ne.2 a,cond_false];refine(d (i+1) n cut (by omega) (by omega)).trans ?_;have c:((45:UInt8)∈b::s.drop (i+1))↔((45:UInt8)∈s.drop (i+1)):=by simp[Ne.symm a]
    have:(if (45:UInt8)∈s.drop (i+1) then i+1+D5 (s.drop (i+1)) else cut)=(if (45:UInt8)∈b::s.drop (i+1) then i+D5 (b::s.drop (i+1)) else cut):=by
     by_cases q:(45:UInt8)∈s.drop (i+1)
     ·rw[if_pos q,if_pos (c.2 q),D5,if_pos q];omega
     grind
    rw[this]
theorem NX{R:Type}{k0:By->Int->LL->Option R}(s:By)(q:s.length<=1000000)(k:Nat)(p:k<=s.length):∀(r i n:Nat) (l:List Nat),i+r=k->r<n->l.length=i->
  Ce LF n s (k:Int) (i:Int) (B4 l) k0=k0 s (k:Int) (B4 (l++((s.take k).drop i).map (·.toNat))):=by
 intro r
 induction r with
 | zero=>
  intro i n l f h g;obtain⟨n,rfl⟩:∃m,n=m+1:=⟨n-1,by omega⟩
  rw[Ce];rw[A4,b7 (by rw[c9];omega)];simp
 | succ r j=>
  intro i n l f h g;obtain⟨n,rfl⟩:∃m,n=m+1:=⟨n-1,by omega⟩
  rw[Ce];have c:A2 ((i:Int)+1)=((i+1:Nat):Int):=by rw[A3];rfl
  have e:(s.take k).drop i=s.getD i 0::(s.take k).drop (i+1):=by
   rw[K2 (s.take k) i (by rw[c9];omega)]
   congr 1
   rw[j7,j7,p4 (by omega)]
  rw[A8,K7,L5,e,C0,E9 (by omega),c];simp only[cond_true];generalize s.getD i 0=b;have o:=b.toNat_lt;have d:A2 (b.toNat:Int)=(b.toNat:Int):=A3;have a:B4 l++[[SV.int .i64 (A2 (b.toNat:Int))]]=B4 (l++[b.toNat]):=by rw[d,Ll];rfl
  rw[a];refine(j (i+1) n _ (by omega) (by omega) (by simp;omega)).trans ?_;simp
theorem OA(s:By)(hs:s.length<=1000000)(out:LL)(f b e:Int)(l:LL)(Q:0<=b)(S:b<1000000):∀(r p n k:Nat) (i w:Int),p+r=s.length->r<n->0<=i->i<=1099511627776->0<=w->w<=1099511627776->k+r<=10000000->
  ((M3 b (s.drop p) i w ((36*k:Nat):Int)).1=0->∃o,p<o/\o<=s.length/\(M3 b (s.drop p) i w ((36*k:Nat):Int)).2.1=s.drop o/\∀(R:Type) (a:Int->LL->Option R) (d:By->LL->Int->Int->Int->Int->LL->Option R),N3 LF n s out (p:Int) f i b e w (k:Int) l a d=d s out (o:Int) f (M3 b (s.drop p) i w ((36*k:Nat):Int)).2.2 e l)/\
  ((M3 b (s.drop p) i w ((36*k:Nat):Int)).1≠0->∀(R:Type) (a:Int->LL->Option R) (d:By->LL->Int->Int->Int->Int->LL->Option R),N3 LF n s out (p:Int) f i b e w (k:Int) l a d=a (M3 b (s.drop p) i w ((36*k:Nat):Int)).1 l):=by
 intro r
 induction r with
 | zero=>
  intro p n k i w Y X V D G g W;obtain⟨n,rfl⟩:∃m,n=m+1:=⟨n-1,by omega⟩
  rw[b7 (by omega)];refine⟨λh=>by simp[M3] at h,λ_ R a d=>?_⟩;rw[N3];rw[A4];rfl
 | succ r ih=>
  intro p n k i w Y X V D G g W;obtain⟨n,rfl⟩:∃m,n=m+1:=⟨n-1,by omega⟩
  have T:=K2 s p (by omega);have C:=L5 s p;rw[T];generalize s.getD p 0=c at *;have Z:=Aq c;have ht:=Fo ((36*k:Nat):Int) b;have H:ab3 36 (k:Int)=((36*k:Nat):Int):=rfl;have K:A2 ((p:Int)+1)=((p+1:Nat):Int):=by rw[A3];rfl
  have L:A2 ((k:Int)+1)=((k+1:Nat):Int):=by rw[A3];rfl
  have start:∀(R:Type) (a:Int->LL->Option R) (d:By->LL->Int->Int->Int->Int->LL->Option R),N3 LF (n+1) s out (p:Int) f i b e w (k:Int) l a d =
    cond (ltI (C2 c) 0) (a 4 l)
     (vl (A2 (i+(A2 (C2 c*w)))) λj=>cond (ltI 1099511627776 j) (a 19 l)
      (cond (ltI (C2 c) (G9 ((36*k:Nat):Int) b)) (d s out ((p+1:Nat):Int) f j e l)
       (vl (A2 (36-(G9 ((36*k:Nat):Int) b))) λq=>cond (ltI 1099511627776 (A2 (w*q))) (a 19 l) (N3 LF n s out ((p+1:Nat):Int) f j b e (A2 (w*q)) ((k+1:Nat):Int) l a d)))):=by
   intro R a d;rw[N3];have U:=c.toNat_lt;rw[A8,K7,C,K7,Rc,J8,J8,H,K,L];rfl
  unfold M3;by_cases y:C2 c<0
  ·rw[if_pos y];refine⟨λh=>by simp at h,λ_ R a d=>?_⟩;rw[start,C6 y];rfl
  ·rw[if_neg y];have hm:=X5 (by omega) Z.2 G g;have u:A2 (C2 c*w)=C2 c*w:=A3;have v:A2 (i+C2 c*w)=i+C2 c*w:=A3;by_cases z:1099511627776<i+C2 c*w
   ·rw[if_pos z];refine⟨λh=>by simp at h,λ_ R a d=>?_⟩;rw[start,A4,u,v];simp only[vl,cond_false];rw[C6 z];rfl
   ·rw[if_neg z];by_cases A:C2 c<G9 ((36*k:Nat):Int) b
    ·rw[if_pos A];refine⟨λ_=>⟨p+1,by omega,by omega,rfl,λR a d=>?_⟩,λh=>absurd rfl h⟩;rw[start,A4,u,v];simp only[vl,cond_false];rw[A4,C6 A];rfl
    ·rw[if_neg A];have I:A2 (36-G9 ((36*k:Nat):Int) b)=36-G9 ((36*k:Nat):Int) b:=A3;have F:=X5 (x:=36-G9 ((36*k:Nat):Int) b) (by omega) (by omega) G g;rw[ae0] at F;have J:A2 (w*(36-G9 ((36*k:Nat):Int) b))=w*(36-G9 ((36*k:Nat):Int) b):=A3;by_cases B:1099511627776<w*(36-G9 ((36*k:Nat):Int) b)
     ·rw[if_pos B];refine⟨λh=>by simp at h,λ_ R a d=>?_⟩;rw[start,A4,u,v];simp only[vl,cond_false];rw[A4,A4,I,J,C6 B];rfl
     ·rw[if_neg B];have M:((36*k:Nat):Int)+36=((36*(k+1):Nat):Int):=by omega
      rw[M];obtain⟨q1,q2⟩:=ih (p+1) n (k+1) (i+C2 c*w) (w*(36-G9 ((36*k:Nat):Int) b)) (by omega) (by omega) (by omega) (by omega) (by omega) (by omega) (by omega);have t:∀(R:Type) (a:Int->LL->Option R) (d:By->LL->Int->Int->Int->Int->LL->Option R),N3 LF (n+1) s out (p:Int) f i b e w (k:Int) l a d=N3 LF n s out ((p+1:Nat):Int) f (i+C2 c*w) b e (w*(36-G9 ((36*k:Nat):Int) b)) ((k+1:Nat):Int) l a d:=by simp_all
      refine⟨λh=>?_,λh R a d=>by rw[t];exact q2 h R a d⟩;obtain⟨o,g1,N,O,P⟩:=q1 h;exact⟨o,by omega,N,O,λR a d=>by rw[t];exact P R a d⟩
theorem OB(s:By)(hs:s.length<=1000000)(l:LL):∀(r p n k:Nat) (i w:Int),p+r=s.length->r<n->0<=i->i<=1099511627776->0<=w->w<=1099511627776->k+r<=10000000->
  ((M3 72 (s.drop p) i w ((36*k:Nat):Int)).1=0->∃f,p<f/\f<=s.length/\(M3 72 (s.drop p) i w ((36*k:Nat):Int)).2.1=s.drop f/\∀(R:Type) (a:Int->LL->Option R) (b:By->Int->Int->LL->Option R),N4 LF n s (p:Int) i w (k:Int) l a b=b s (f:Int) (M3 72 (s.drop p) i w ((36*k:Nat):Int)).2.2 l)/\
  ((M3 72 (s.drop p) i w ((36*k:Nat):Int)).1≠0->∀(R:Type) (a:Int->LL->Option R) (b:By->Int->Int->LL->Option R),N4 LF n s (p:Int) i w (k:Int) l a b=a (M3 72 (s.drop p) i w ((36*k:Nat):Int)).1 l):=by
 intro r
 induction r with
 | zero=>
  intro p n k i w T S P A C d Q;obtain⟨n,rfl⟩:∃m,n=m+1:=⟨n-1,by omega⟩
  rw[b7 (by omega)];refine⟨λh=>by simp[M3] at h,λ_ R a b=>?_⟩;rw[N4];rw[A4];rfl
 | succ r V=>
  intro p n k i w T S P A C d Q;obtain⟨n,rfl⟩:∃m,n=m+1:=⟨n-1,by omega⟩
  have N:=K2 s p (by omega);have z:=L5 s p;rw[N];generalize s.getD p 0=c at *;have U:=Aq c;have ht:=Fo ((36*k:Nat):Int) 72;have D:ab3 36 (k:Int)=((36*k:Nat):Int):=rfl;have H:A2 ((p:Int)+1)=((p+1:Nat):Int):=by rw[A3];rfl
  have I:A2 ((k:Int)+1)=((k+1:Nat):Int):=by rw[A3];rfl
  have start:∀(R:Type) (a:Int->LL->Option R) (b:By->Int->Int->LL->Option R),N4 LF (n+1) s (p:Int) i w (k:Int) l a b =
    cond (ltI (C2 c) 0) (a 4 l)
     (vl (A2 (i+(A2 (C2 c*w)))) λe=>cond (ltI 1099511627776 e) (a 19 l)
      (cond (ltI (C2 c) (G9 ((36*k:Nat):Int) 72)) (b s ((p+1:Nat):Int) e l)
       (vl (A2 (36-(G9 ((36*k:Nat):Int) 72))) λg=>cond (ltI 1099511627776 (A2 (w*g))) (a 19 l) (N4 LF n s ((p+1:Nat):Int) e (A2 (w*g)) ((k+1:Nat):Int) l a b)))):=by
   intro R a b;rw[N4];have O:=c.toNat_lt;rw[A8,K7,z,K7,Rc,J8,J8,D,H,I];rfl
  unfold M3;by_cases t:C2 c<0
  ·rw[if_pos t];refine⟨λh=>by simp at h,λ_ R a b=>?_⟩;rw[start,C6 t];rfl
  ·rw[if_neg t];have Z:=X5 (by omega) U.2 C d;have o:A2 (C2 c*w)=C2 c*w:=A3;have q:A2 (i+C2 c*w)=i+C2 c*w:=A3;by_cases u:1099511627776<i+C2 c*w
   ·rw[if_pos u];refine⟨λh=>by simp at h,λ_ R a b=>?_⟩;rw[start,A4,o,q];simp only[vl,cond_false];rw[C6 u];rfl
   ·rw[if_neg u];by_cases v:C2 c<G9 ((36*k:Nat):Int) 72
    ·rw[if_pos v];refine⟨λ_=>⟨p+1,by omega,by omega,rfl,λR a b=>?_⟩,λh=>absurd rfl h⟩;rw[start,A4,o,q];simp only[vl,cond_false];rw[A4,C6 v];rfl
    ·rw[if_neg v];have F:A2 (36-G9 ((36*k:Nat):Int) 72)=36-G9 ((36*k:Nat):Int) 72:=A3;have B:=X5 (x:=36-G9 ((36*k:Nat):Int) 72) (by omega) (by omega) C d;rw[ae0] at B;have G:A2 (w*(36-G9 ((36*k:Nat):Int) 72))=w*(36-G9 ((36*k:Nat):Int) 72):=A3;by_cases y:1099511627776<w*(36-G9 ((36*k:Nat):Int) 72)
     ·rw[if_pos y];refine⟨λh=>by simp at h,λ_ R a b=>?_⟩;rw[start,A4,o,q];simp only[vl,cond_false];rw[A4,A4,F,G,C6 y];rfl
     ·rw[if_neg y];have J:((36*k:Nat):Int)+36=((36*(k+1):Nat):Int):=by omega
      rw[J];obtain⟨W,X⟩:=V (p+1) n (k+1) (i+C2 c*w) (w*(36-G9 ((36*k:Nat):Int) 72)) (by omega) (by omega) (by omega) (by omega) (by omega) (by omega) (by omega);have j:∀(R:Type) (a:Int->LL->Option R) (b:By->Int->Int->LL->Option R),N4 LF (n+1) s (p:Int) i w (k:Int) l a b=N4 LF n s ((p+1:Nat):Int) (i+C2 c*w) (w*(36-G9 ((36*k:Nat):Int) 72)) ((k+1:Nat):Int) l a b:=by simp_all
      refine⟨λh=>?_,λh R a b=>by rw[j];exact X h R a b⟩;obtain⟨f,Y,K,L,M⟩:=W h;exact⟨f,by omega,K,L,λR a b=>by rw[j];exact M R a b⟩
theorem Xs(l:List Nat)(k:Nat):(B4 l).take k=B4 (l.take k):=by unfold B4;rw[List.map_take]
theorem Xr(l:List Nat)(k:Nat):(B4 l).drop k=B4 (l.drop k):=by unfold B4;rw[List.map_drop]
theorem NZ(s:By)(hs:s.length<=1000000)(l:LL):∀(r p f:Nat) (a:List Nat) (n i b:Nat),p+r=s.length->r<f->a.length<=256->n<=1114111->i<=1000->b<=500->
  ((E0 (s.drop p) a n i b false).2=0->∀(R:Type) (c:Int->LL->Option R) (d e:LL->LL->Option R),J1 LF f s (B4 a) (p:Int) (n:Int) (i:Int) (b:Int) l c d e=e (B4 (E0 (s.drop p) a n i b false).1) l)/\
  ((E0 (s.drop p) a n i b false).2≠0->(E0 (s.drop p) a n i b false).1=[]/\((∀(R:Type) (c:Int->LL->Option R) (d e:LL->LL->Option R),J1 LF f s (B4 a) (p:Int) (n:Int) (i:Int) (b:Int) l c d e=c ((E0 (s.drop p) a n i b false).2:Nat) l)\/
   ((E0 (s.drop p) a n i b false).2=3/\∃D,∀(R:Type) (c:Int->LL->Option R) (d e:LL->LL->Option R),J1 LF f s (B4 a) (p:Int) (n:Int) (i:Int) (b:Int) l c d e=d l D))):=by
 have a0:=G7;intro r
 induction r using ag3 with
 | _ r ih=>
  intro p f a n i b hp hf h2 h3 h4 h5;obtain⟨f,rfl⟩:∃m,f=m+1:=⟨f-1,by omega⟩
  by_cases hr:r=0
  ·rw[b7 (by omega),W7];refine⟨λ_ R c d e=>?_,λh=>absurd rfl h⟩;rw[J1];rw[A4];rfl
  ·have q:s.drop p≠[]:=λh=>by
    have:=congrArg o3 h;rw[j0] at this;simp at this;omega
   obtain⟨z,H⟩:=OA s hs (B4 a) (n:Int) (b:Int) (i:Int) l (by omega) (by omega) r p LF 0 (i:Int) 1 hp (by omega) (by omega) (by omega) (by omega) (by omega) (by omega);obtain⟨F,G⟩:=Ks b (s.drop p) i 1 0;have y:M3 (b:Int) (s.drop p) (i:Int) 1 ((36*0:Nat):Int)=M3 (b:Int) (s.drop p) (i:Int) ((1:Nat):Int) ((36*0:Nat):Int):=rfl;rw[y] at z H;by_cases o:(C1 b (s.drop p) i 1 0).2.2=0
   ·rw[Y9 q a n i b false o];have T:=G o;have K:(M3 (b:Int) (s.drop p) (i:Int) ((1:Nat):Int) ((36*0:Nat):Int)).1=0:=by rw[F,o];rfl
    obtain⟨v,a1,a2,w,x⟩:=z K;obtain⟨L,O,_⟩:=Kr (b:Int) (s.drop p) (i:Int) ((1:Nat):Int) ((36*0:Nat):Int) (by omega) (by omega) (by omega) K;rw[T] at L O w x;simp only at L O w x;rw[w];generalize (C1 b (s.drop p) i 1 0).1=X at *;have el:A2 (((B4 a).length:Int)+1)=((a.length+1:Nat):Int):=by rw[C0,A3];rfl
    have U:A2 ((X:Int)-(i:Int))=((X-i:Nat):Int):=by rw[A3];omega
    have Z:o9 (X:Int) ((a.length+1:Nat):Int)=((X / (a.length+1):Nat):Int):=I6 _ _;have em:o8 (X:Int) ((a.length+1:Nat):Int)=((X % (a.length+1):Nat):Int):=Ef _ _;have a5:X / (a.length+1)<=X:=s8 _ _;have J:=aa8 X (show 0<a.length+1 by omega);have A:=Gh (X-i) (a.length+1) false (by omega);generalize hQ:X / (a.length+1)=Q at *;generalize hM:X % (a.length+1)=M at *;have V:A2 (Q:Int)=(Q:Int):=A3;have W:A2 ((n:Int)+(Q:Int))=((n+Q:Nat):Int):=by rw[A3];rfl
    have Y:A2 ((M:Int)+1)=((M+1:Nat):Int):=by rw[A3];rfl
    have C:(((a.length+1:Nat):Int)!=0)=true:=by rw[bne_iff_ne];omega
    have P:cut (B4 a) 0 (M:Int)=B4 (a.take M):=by rw[Bk,a7,Xs]
    have S:cut (B4 a) (M:Int) ((B4 a).length:Int)=B4 (a.drop M):=by rw[Af,a7,Xr]
    have t:∀N:Nat,B4 (a.take M)++[[SV.int .i64 (N:Int)]]++B4 (a.drop M)=B4 (N2 a M N):=λN=>by
     unfold N2;rw[Ll,w8];rfl
    have start:∀(R:Type) (c:Int->LL->Option R) (d e:LL->LL->Option R),J1 LF (f+1) s (B4 a) (p:Int) (n:Int) (i:Int) (b:Int) l c d e =
      cond (not (Bq (n+Q))) (c 2 l) (cond (ltI 256 ((a.length+1:Nat):Int)) (d l (B4 (N2 a M (n+Q))))
       (J1 LF f s (B4 (N2 a M (n+Q))) (v:Int) ((n+Q:Nat):Int) ((M+1:Nat):Int) ((K3 (X-i) (a.length+1) false:Nat):Int) l c d e)):=by
     intro R c d e;rw[J1];rw[A8,cond_true];refine(x R _ _).trans ?_;have s1:O2 (0:Int) (M:Int) (B4 a).length=true:=P3 (by omega) (by omega) (by rw[C0];omega);have s2:O2 (M:Int) ((B4 a).length:Int) (B4 a).length=true:=P3 (by omega) (by rw[C0];omega) (by omega);have t1:ltN ((X-i:Nat):Int) 1152921504606846976=true:=J8;have t2:ltN ((a.length+1:Nat):Int) 1000000=true:=J8;have t3:ltI 0 ((a.length+1:Nat):Int)=true:=A8;have l1:(B4 (a.take M)).length=M:=by rw[C0,c9];omega
     have l2:(B4 (a.drop M)).length=a.length-M:=by rw[C0,j0]
     have r1:F8 (0+(B4 (a.take M)).length)=true:=E9 (by omega);have r2:F8 ((B4 (a.take M)).length+1)=true:=E9 (by omega);have r3:F8 ((B4 (a.take M)++[[SV.int .i64 ((n+Q:Nat):Int)]]).length+(B4 (a.drop M)).length)=true:=E9 (by rw[j2,h9];omega);have l3:(B4 (N2 a M (n+Q))).length=a.length+1:=by rw[C0,T1]
     simp only[vl,el,U,Z,em,V,W,Y,C,s1,s2,t1,t2,t3,P,S,r1,r2,r3,t,l3,cond_true,a7,Fe]
    cases g:Bq (n+Q) with
    | false=>
     rw[if_neg (by simp)];refine⟨λh=>by simp at h,λ_=>⟨rfl,.inl λR c d e=>?_⟩⟩;rw[start,g];rfl
    | true=>
     rw[if_pos rfl];by_cases I:256<a.length+1
     ·rw[if_pos I];refine⟨λh=>by simp at h,λ_=>⟨rfl,.inr ⟨rfl,B4 (N2 a M (n+Q)),λR c d e=>?_⟩⟩⟩;rw[start,g,A8];rfl
     ·rw[if_neg I];have B:n+Q<=1114111:=by
       unfold Bq at g;simp only[p9,j9] at g;exact g.1
      have k:∀(R:Type) (c:Int->LL->Option R) (d e:LL->LL->Option R),J1 LF (f+1) s (B4 a) (p:Int) (n:Int) (i:Int) (b:Int) l c d e=J1 LF f s (B4 (N2 a M (n+Q))) (v:Int) ((n+Q:Nat):Int) ((M+1:Nat):Int) ((K3 (X-i) (a.length+1) false:Nat):Int) l c d e:=by
       intro R c d e;rw[start,g,A4];rfl
      obtain⟨z1,z2⟩:=ih (s.length-v) (by omega) v f (N2 a M (n+Q)) (n+Q) (M+1) (K3 (X-i) (a.length+1) false) (by omega) (by omega) (by rw[T1];omega) B (by omega) A;refine⟨λh R c d e=>by rw[k];exact z1 h R c d e,λh=>?_⟩;obtain⟨y1,u⟩:=z2 h;refine⟨y1,?_⟩;rcases u with u|⟨u,D,y3⟩
      ·exact .inl λR c d e=>by rw[k];exact u R c d e
      ·exact .inr ⟨u,D,λR c d e=>by rw[k];exact y3 R c d e⟩
   ·rw[Bl q a n i b false o];clear z G;refine⟨λh=>absurd h o,λ_=>⟨rfl,.inl λR c d e=>?_⟩⟩;rw[J1];rw[A8,cond_true];have j:=congrArg Prod.fst F;simp only at j;refine(H (by rw[j];omega) R _ _).trans ?_;rw[j]
theorem RW:∀(r:Nat) (s:By) (a:List Nat) (n i b:Nat) (f:Bool),s.length<=r->0<a.length->(E0 s a n i b f).2=0->(E0 s a n i b f).1≠[]:=by
 intro r
 induction r with
 | zero=>
  intro s a n i b f d l h;obtain rfl:=p5.1 (af7.1 d);rw[W7];grind
 | succ r m=>
  intro s a n i b f d l h;by_cases e:s=[]
  ·grind
  ·by_cases c:(C1 b s i 1 0).2.2=0
   ·rw[Y9 e a n i b f c] at h ⊢;split at h
    ·rename_i g;rw[if_pos g];split at h
     ·omega
     ·rename_i j;rw[if_neg j];have k:=Hs b s i 1 0 c;exact m _ _ _ _ _ _ (by omega) (by rw[T1];omega) h
    omega
   ·rw[Bl e a n i b f c] at h;omega
theorem NY(s:By)(K:s.length<=1000000)(p:Nat)(a:List Nat)(h2:a.length<=256)(hp:p<=s.length) :
  (s.drop p=[]/\∀(R:Type) (b:Int->LL->Option R) (c d:LL->LL->Option R) (g:LL->Option R),G2 LF LF s (p:Int) (B4 a) b c d g=g (B4 a))\/
  ((E0 (s.drop p) a 128 0 72 true).2=0/\(E0 (s.drop p) a 128 0 72 true).1≠[]/\∀(R:Type) (b:Int->LL->Option R) (c d:LL->LL->Option R) (g:LL->Option R),G2 LF LF s (p:Int) (B4 a) b c d g=d (B4 (E0 (s.drop p) a 128 0 72 true).1) (B4 a))\/
  ((E0 (s.drop p) a 128 0 72 true).1=[]/\((∀(R:Type) (b:Int->LL->Option R) (c d:LL->LL->Option R) (g:LL->Option R),G2 LF LF s (p:Int) (B4 a) b c d g=b ((E0 (s.drop p) a 128 0 72 true).2:Nat) (B4 a))\/
   ((E0 (s.drop p) a 128 0 72 true).2=3/\∃F,∀(R:Type) (b:Int->LL->Option R) (c d:LL->LL->Option R) (g:LL->Option R),G2 LF LF s (p:Int) (B4 a) b c d g=c (B4 a) F))):=by
 have a0:=G7;obtain⟨f,B⟩:∃m,LF=m+1:=⟨LF-1,by omega⟩
 by_cases hr:s.length<=p
 ·refine .inl ⟨b7 hr,λR b c d g=>?_⟩;have e:G2 LF LF s (p:Int) (B4 a) b c d g=G2 LF (f+1) s (p:Int) (B4 a) b c d g:=by rw[<-B]
  rw[e,G2];rw[A4];rfl
 ·right
  have o:s.drop p≠[]:=λh=>by
   have:=congrArg o3 h;grind
  obtain⟨u,y⟩:=OB s K (B4 a) (s.length-p) p LF 0 0 1 (by omega) (by omega) (by omega) (by omega) (by omega) (by omega) (by omega);obtain⟨G,x⟩:=Ks 72 (s.drop p) 0 1 0;have n:M3 72 (s.drop p) 0 1 ((36*0:Nat):Int)=M3 ((72:Nat):Int) (s.drop p) ((0:Nat):Int) ((1:Nat):Int) ((36*0:Nat):Int):=rfl;rw[n] at u y;by_cases A:(C1 72 (s.drop p) 0 1 0).2.2=0
  ·rw[Y9 o a 128 0 72 true A];have H:=x A;have k:(M3 ((72:Nat):Int) (s.drop p) ((0:Nat):Int) ((1:Nat):Int) ((36*0:Nat):Int)).1=0:=by grind
   obtain⟨r,a1,a2,v,w⟩:=u k;obtain⟨L,O,_⟩:=Kr ((72:Nat):Int) (s.drop p) ((0:Nat):Int) ((1:Nat):Int) ((36*0:Nat):Int) (by omega) (by omega) (by omega) k;rw[H] at L O v w;simp only at L O v w;clear u y G x H k n;rw[v];generalize (C1 72 (s.drop p) 0 1 0).1=X at *;have Z:A2 (((B4 a).length:Int)+1)=((a.length+1:Nat):Int):=by rw[C0,A3];rfl
   have T:A2 ((X:Int)-0)=(X:Int):=by rw[A3];omega
   have Y:o9 (X:Int) ((a.length+1:Nat):Int)=((X / (a.length+1):Nat):Int):=I6 _ _;have em:o8 (X:Int) ((a.length+1:Nat):Int)=((X % (a.length+1):Nat):Int):=Ef _ _;have a5:X / (a.length+1)<=X:=s8 _ _;have J:=aa8 X (show 0<a.length+1 by omega);have z:=Gh X (a.length+1) true (by omega);generalize hQ:X / (a.length+1)=Q at *;generalize hM:X % (a.length+1)=M at *;have U:A2 (Q:Int)=(Q:Int):=A3;have V:A2 ((128:Int)+(Q:Int))=((128+Q:Nat):Int):=by rw[A3];rfl
   have W:A2 ((M:Int)+1)=((M+1:Nat):Int):=by rw[A3];rfl
   have D:(((a.length+1:Nat):Int)!=0)=true:=by rw[bne_iff_ne];omega
   have P:z7 (M-0) (aa5 0 (B4 a))=B4 (a.take M):=by rw[ai6,k9,Xs]
   have S:z7 ((B4 a).length-M) (aa5 M (B4 a))=B4 (a.drop M):=by
    rw[y8 (by rw[j0];omega),Xr]
   have q:∀N:Nat,B4 (a.take M)++[[SV.int .i64 (N:Int)]]++B4 (a.drop M)=B4 (N2 a M N):=λN=>by
    unfold N2;rw[Ll,w8];rfl
   have start:∀(R:Type) (b:Int->LL->Option R) (c d:LL->LL->Option R) (g:LL->Option R),G2 LF LF s (p:Int) (B4 a) b c d g =
     cond (not (Bq (128+Q))) (b 2 (B4 a)) (cond (ltI 256 ((a.length+1:Nat):Int)) (c (B4 a) (B4 (N2 a M (128+Q))))
      (J1 LF f s (B4 (N2 a M (128+Q))) (r:Int) ((128+Q:Nat):Int) ((M+1:Nat):Int) ((K3 X (a.length+1) true:Nat):Int) (B4 a) b c d)):=by
    intro R b c d g;have e:G2 LF LF s (p:Int) (B4 a) b c d g=G2 LF (f+1) s (p:Int) (B4 a) b c d g:=by rw[<-B]
    rw[e,G2];rw[A8,cond_true];refine(w R _ _).trans ?_;have s1:O2 (0:Int) (M:Int) (B4 a).length=true:=P3 (by omega) (by omega) (by rw[C0];omega);have s2:O2 (M:Int) ((B4 a).length:Int) (B4 a).length=true:=P3 (by omega) (by rw[C0];omega) (by omega);have t1:ltN (X:Int) 1152921504606846976=true:=J8;have t2:ltN ((a.length+1:Nat):Int) 1000000=true:=J8;have t3:ltI 0 ((a.length+1:Nat):Int)=true:=A8;have l1:(B4 (a.take M)).length=M:=by rw[C0,c9];omega
    have l2:(B4 (a.drop M)).length=a.length-M:=by rw[C0,j0]
    have r1:F8 (0+(B4 (a.take M)).length)=true:=E9 (by omega);have r2:F8 ((B4 (a.take M)).length+1)=true:=E9 (by omega);have r3:F8 ((B4 (a.take M)++[[SV.int .i64 ((128+Q:Nat):Int)]]).length+(B4 (a.drop M)).length)=true:=E9 (by rw[j2,h9];omega);have l3:(B4 (N2 a M (128+Q))).length=a.length+1:=by rw[C0,T1]
    simp only[vl,Z,T,Y,em,U,V,W,D,s1,s2,t1,t2,t3,a7,P,S,r1,r2,r3,q,l3,cond_true,Fe]
   cases j:Bq (128+Q) with
   | false=>
    rw[if_neg (by simp)];refine .inr ⟨rfl,.inl λR b c d g=>?_⟩;rw[start,j];rfl
   | true=>
    rw[if_pos rfl];by_cases I:256<a.length+1
    ·rw[if_pos I];refine .inr ⟨rfl,.inr ⟨rfl,B4 (N2 a M (128+Q)),λR b c d g=>?_⟩⟩;rw[start,j,A8];rfl
    ·rw[if_neg I];have C:128+Q<=1114111:=by
      unfold Bq at j;simp_all
     have l:∀(R:Type) (b:Int->LL->Option R) (c d:LL->LL->Option R) (g:LL->Option R),G2 LF LF s (p:Int) (B4 a) b c d g=J1 LF f s (B4 (N2 a M (128+Q))) (r:Int) ((128+Q:Nat):Int) ((M+1:Nat):Int) ((K3 X (a.length+1) true:Nat):Int) (B4 a) b c d:=by
      intro R b c d g;rw[start,j,A4];rfl
     obtain⟨z1,z2⟩:=NZ s K (B4 a) (s.length-r) r f (N2 a M (128+Q)) (128+Q) (M+1) (K3 X (a.length+1) true) (by omega) (by omega) (by rw[T1];omega) C (by omega) z;have hX:X-0=X:=ai6 X;rw[hX];by_cases k:(E0 (s.drop r) (N2 a M (128+Q)) (128+Q) (M+1) (K3 X (a.length+1) true) false).2=0
     ·refine .inl ⟨k,?_,λR b c d g=>by rw[l];exact z1 k R b c d⟩;exact RW _ _ _ _ _ _ _ (y5 _) (by rw[T1];omega) k
     ·obtain⟨y1,t⟩:=z2 k;refine .inr ⟨y1,?_⟩;rcases t with t|⟨t,F,y3⟩
      ·exact .inl λR b c d g=>by rw[l];exact t R b c d
      ·exact .inr ⟨t,F,λR b c d g=>by rw[l];exact y3 R b c d⟩
  ·rw[Bl o a 128 0 72 true A];clear u x;refine .inr ⟨rfl,.inl λR b c d g=>?_⟩;have e:G2 LF LF s (p:Int) (B4 a) b c d g=G2 LF (f+1) s (p:Int) (B4 a) b c d g:=by rw[<-B]
   rw[e,G2];rw[A8,cond_true];have i:=congrArg Prod.fst G;simp only at i;refine(y (by rw[i];omega) R _ _).trans ?_;rw[i]
theorem YD(s:By)(L:A7 s.length=true):∃r H,QZ LF s (λg e=>rv (.tup [.fl 0,.s (.int .i64 g)]) [.arr true 3 1 e]) (λg e=>rv (.tup [.fl 1,.s (.int .i64 g)]) [.arr true 3 1 e,.arr true 3 1 []]) (λw e=>rv (.tup [.fl 2,.s (.int .i64 (3:Int))]) [.arr true 3 1 w,.arr false 3 1 e,.arr true 3 1 []]) (λg e=>rv (.tup [.s (.sl false false 1 g),.s (.int .i64 (0:Int))]) [.arr true 3 1 e])=rv r H/\
  r.stab [1,0] H = .tup [.s (.sl (I3 s).1.isEmpty (I3 s).1.isEmpty 1 (Qi (I3 s).1)),.s (.int .i64 ((I3 s).2:Nat))]:=by
 have F:=G7;unfold QZ I3;by_cases y:1024<s.length
 ·rw[if_pos y,A8];exact⟨_,_,rfl,rfl⟩
 ·rw[if_neg y,A4,cond_false];have asc:=λ(R:Type) (B:Unit->Option R) (C:By->Int->Option R)=>OC (k0:=B) (k1:=C) s (by omega) s.length 0 LF 0 (by omega) (by omega)
  rw[k9] at asc;cases x:s.any (λb=>j6 128 b.toNat) with
  | true=>
   rw[if_pos rfl];refine⟨.tup [.fl 0,.s (.int .i64 4)],[.arr true 3 1 []],(asc _ _ _).trans ?_,rfl⟩;rw[x,if_pos rfl]
  | false=>
   rw[if_neg (by simp)];obtain⟨J,D⟩:=Gt s;have G:=Gu s;have o:(if (45:UInt8)∈s then 0+D5 s else 0)=D5 s:=by
    split
    ·omega
    ·rename_i h;exact(D h).2.symm
   rw[x,o] at asc;have c:=λ(R:Type) (K:By->Int->LL->Option R)=>NX (k0:=K) s (by omega) (D5 s) (by omega) (D5 s) 0 LF [] (by omega) (by omega) rfl
   rw[k9] at c;have f:((s.take (D5 s)).map (·.toNat)).length=D5 s:=by rw[j3,c9];omega
   generalize M:D5 s=m at *;generalize z:(s.take m).map (·.toNat)=d at *;by_cases j:256<m
   ·rw[if_pos j];refine⟨.tup [.fl 1,.s (.int .i64 3)],[.arr true 3 1 (B4 d),.arr true 3 1 []],(asc _ _ _).trans ?_,rfl⟩;rw[if_neg (by simp)];refine(c _ _).trans ?_;rw[u9,C0,f,A8];rfl
   ·rw[if_neg j];have n:∀p:Nat,p<=s.length->∀(X:Option (PV × List Blk × Unit)),X=G2 LF LF s (p:Int) (B4 d) (λg e=>rv (.tup [.fl 1,.s (.int .i64 g)]) [.arr true 3 1 e,.arr true 3 1 []]) (λw e=>rv (.tup [.fl 2,.s (.int .i64 (3:Int))]) [.arr true 3 1 w,.arr false 3 1 e,.arr true 3 1 []]) (λg e=>rv (.tup [.s (.sl false false 1 g),.s (.int .i64 (0:Int))]) [.arr true 3 1 e]) (λl=>rv (.tup [.fl 0,.s (.int .i64 0)]) [.arr true 3 1 l])->
      ∃r H,X=rv r H/\r.stab [1,0] H = .tup [.s (.sl (E0 (s.drop p) d 128 0 72 true).1.isEmpty (E0 (s.drop p) d 128 0 72 true).1.isEmpty 1 (Qi (E0 (s.drop p) d 128 0 72 true).1)),.s (.int .i64 ((E0 (s.drop p) d 128 0 72 true).2:Nat))]:=by
     intro p I X q;rcases NY s (by omega) p d (by omega) I with⟨i,k⟩|⟨i,t,k⟩|⟨i,k|⟨t,N,k⟩⟩
     ·refine⟨_,_,q.trans (k _ _ _ _ _),?_⟩;rw[i,W7,Dx];simp[PV.stab,Oa,Qh,PV.snap,I8,Lm]
     ·refine⟨_,_,q.trans (k _ _ _ _ _),?_⟩;rw[i,Dx];have:(E0 (s.drop p) d 128 0 72 true).1.isEmpty=false:=by
       cases h:(E0 (s.drop p) d 128 0 72 true).1 with
       | nil=>exact absurd h t
       | cons a r=>rfl
      rw[this];rfl
     ·refine⟨_,_,q.trans (k _ _ _ _ _),?_⟩;rw[i];rfl
     ·refine⟨_,_,q.trans (k _ _ _ _ _),?_⟩;rw[i,t];rfl
    by_cases A:m=0
    ·subst A;rw[if_pos rfl];have:=n 0 (by omega) _ rfl;rw[k9] at this;obtain⟨r,H,u,v⟩:=this;refine⟨r,H,(asc _ _ _).trans ?_,v⟩;rw[if_neg (by simp)];refine(c _ _).trans ?_;rw[u9,C0,f,A4,cond_false,A4,cond_false];exact u
    ·rw[if_neg A];obtain⟨r,H,u,v⟩:=n (m+1) (by omega) _ rfl;refine⟨r,H,(asc _ _ _).trans ?_,v⟩;rw[if_neg (by simp)];refine(c _ _).trans ?_;have i:A2 ((m:Int)+1)=((m+1:Nat):Int):=by rw[A3];rfl
     rw[u9,C0,f,A4,cond_false,A8,cond_true,i];exact u
theorem OD{R:Type}{a:Unit->Option R}{d:By->Bool->LL->Bool->Option R}(s:By)(z:Bool)(p:List Nat)(t:p.length<=1000000000):∀(r i n:Nat) (b:Bool),i+r=p.length->r<n->
  P2 LF n s z (B4 p) b (i:Int) a d=if (p.drop i).any (λp=>j6 65 p&&j6 p 90) then a () else d s z (B4 p) (b||((p.drop i).any λp=>j6 128 p)):=by
 intro r
 induction r with
 | zero=>
  intro i n b h j;obtain⟨n,rfl⟩:∃m,n=m+1:=⟨n-1,by omega⟩
  rw[P2];rw[C0,A4,b7 (by omega)];simp
 | succ r k=>
  intro i n b h j;obtain⟨n,rfl⟩:∃m,n=m+1:=⟨n-1,by omega⟩
  rw[P2];have f:A2 ((i:Int)+1)=((i+1:Nat):Int):=by rw[A3];rfl
  have g:p.drop i=p.getD i 0::p.drop (i+1):=by
   rw[j7,s6 (by omega),af3,ac2]
  rw[C0,A8,K7,a7,Ib (by omega),Ob _ _ (by omega),g,x5,x5,f];simp only[cond_true];generalize p.getD i 0=q;have go:∀c:Bool,P2 LF n s z (B4 p) c ((i+1:Nat):Int) a d=_:=λc=>k (i+1) n c (by omega) (by omega)
  simp only[go];by_cases l:q<65
  ·rw[show ltI (q:Int) (65:Int)=true from A8,show j6 65 q=false by rw[j4,ne_eq,j9];omega];have e:j6 128 q=false:=by rw[j4,ne_eq,j9];omega
   rw[show ltI (q:Int) (128:Int)=true from A8,e];cases b<;>simp
  ·rw[show ltI (q:Int) (65:Int)=false from A4,show j6 65 q=true by rw[j9];omega];by_cases e:90<q
   ·rw[show ltI (90:Int) (q:Int)=true from A8,show j6 q 90=false by rw[j4,ne_eq,j9];omega];by_cases o:q<128
    ·rw[show ltI (q:Int) (128:Int)=true from A8,show j6 128 q=false by rw[j4,ne_eq,j9];omega];cases b<;>simp
    ·rw[show ltI (q:Int) (128:Int)=false from A4,show j6 128 q=true by rw[j9];omega];cases b<;>simp
   ·rw[show ltI (90:Int) (q:Int)=false from A4,show j6 q 90=true by rw[j9];omega];cases b<;>simp
theorem OE{R:Type}{a:Bool->Option R}(s:By)(b:A7 s.length=true):RA LF s a=a (Y3 s):=by
 have c:=G7;unfold RA Y3;rw[b,cond_true];simp only[vl];by_cases h:(I3 s).2=0
 ·have e:(((I3 s).2:Int)!=(0:Int))=false:=by rw[h];rfl
  rw[e,cond_false,Dx,h];have g:=EH s;refine b8 (OD s _ (I3 s).1 (by omega) (I3 s).1.length 0 LF false (by omega) (by omega)) ?_;rw[k9];cases d:(I3 s).1.any (λp=>j6 65 p&&j6 p 90) with
  | true=>simp
  | false=>
   rw[if_neg (by simp),It,EM,EN];simp only[cond_true,vl,v8,j1];by_cases f:(Im (I3 s).1).2=0;all_goals grind
 grind
theorem NL{R:Type}{g:Unit->Option R}{j:By->Option R}(s:By)(v:s.length<=1000000000):∀(r i n:Nat),i+r=s.length->r<n->
  I5 LF n s (i:Int) g j=if (s.drop i).all P8 then j s else g ():=by
 intro r
 induction r with
 | zero=>
  intro i n l c;obtain⟨n,rfl⟩:∃m,n=m+1:=⟨n-1,by omega⟩
  rw[I5];rw[A4,b7 (by omega)];rfl
 | succ r o=>
  intro i n l c;obtain⟨n,rfl⟩:∃m,n=m+1:=⟨n-1,by omega⟩
  rw[I5];have k:A2 ((i:Int)+1)=((i+1:Nat):Int):=by rw[A3];rfl
  rw[A8,K7,L5,K2 s i (by omega),k,s5];simp only[cond_true];rw[o (i+1) n (by omega) (by omega)];generalize s.getD i 0=b;have f:=Pn b;have t:((b.toNat:Int)==45)=(b==45):=R9 b 45 (by omega);have u:((b.toNat:Int)==95)=(b==95):=R9 b 95 (by omega);rw[t,u];cases a:P8 b with
  | true=>
   rw[f] at a;simp only[r9];by_cases d:b=45
   ·subst d;simp (disch:=decide) [ltI]
   ·by_cases e:b=95
    ·subst e;simp (disch:=decide) [ltI]
    ·rcases a with a|a|a|a
     ·rw[show ltI (b.toNat:Int) 97=false from A4,show ltI (122:Int) b.toNat=false from A4];rfl
     ·rw[show ltI (b.toNat:Int) 97=true from A8,show ltI (b.toNat:Int) 48=false from A4,show ltI (57:Int) b.toNat=false from A4];rfl
     ·exact absurd a d
     ·exact absurd a e
  | false=>
   have c:¬((97<=b.toNat/\b.toNat<=122)\/(48<=b.toNat/\b.toNat<=57)\/b=45\/b=95):=λh=>by rw[f.2 h] at a;cases a
   have p:(b==45)=false:=by simpa using λh=>c (.inr (.inr (.inl h)))
   have q:(b==95)=false:=by simpa using λh=>c (.inr (.inr (.inr h)))
   rw[p,q];simp only[j1,cond_true,cond_false,ad0,aa7,if_false];by_cases d:b.toNat<48
   ·rw[show ltI (b.toNat:Int) 97=true from A8,show ltI (b.toNat:Int) 48=true from A8];rfl
   ·by_cases e:b.toNat<97
    ·rw[show ltI (b.toNat:Int) 97=true from A8,show ltI (b.toNat:Int) 48=false from A4,show ltI (57:Int) b.toNat=true from A8];rfl
    ·rw[show ltI (b.toNat:Int) 97=false from A4,show ltI (122:Int) b.toNat=true from A8,show ltI (b.toNat:Int) 48=false from A4,show ltI (57:Int) b.toNat=true from A8];rfl
theorem YP(s:By)(h:4<=s.length):(s.take 4==([120,110,45,45]:List UInt8))=xnB.isPrefixOf s:=by
 match s,h with
 | a::b::c::d::t,_=>
  simp only[List.take_succ_cons,List.take_zero,xnB,ag2,v7];rw[show((a::b::c::d::[])==([120,110,45,45]:List UInt8))=(a==120&&(b==110&&(c==45&&(d==45&&true)))) from rfl,v7];rw[ag0];simp only[p9,beq_iff_eq];exact⟨λh=>⟨h.1.symm,h.2.1.symm,h.2.2.1.symm,h.2.2.2.symm⟩,λh=>⟨h.1.symm,h.2.1.symm,h.2.2.1.symm,h.2.2.2.symm⟩⟩
theorem NM{R:Type}{c:Bool->Option R}(s:By)(e:A7 s.length=true):QX LF s c=c (X9 s):=by
 have k:=Z8 e;have i:=G7;unfold QX X9;by_cases a:s=[]
 ·grind
 ·have r:0<s.length:=x4.2 a;have j:s.isEmpty=false:=by simpa using a
  have b:(s==([]:List UInt8))=false:=by simpa using a
  rw[b,cond_false,j];by_cases n:63<s.length
  ·rw[A8,show j6 s.length 63=false by rw[j4,ne_eq,j9];omega];rfl
  ·rw[A4,cond_false,show j6 s.length 63=true by rw[j9];omega,K7];have m:(bAt s 0==(45:Int))=(s.getD 0 0==45):=by rw[Gi];exact R9 _ 45 (by omega)
   have d:A2 ((s.length:Int)-1)=((s.length-1:Nat):Int):=by rw[A3];omega
   rw[m,d];simp only[cond_true,vl];rw[K7,L5,show((((s.getD (s.length-1) 0).toNat:Nat):Int)==45)=(s.getD (s.length-1) 0==45) from R9 _ 45 (by omega)];cases f:(s.getD 0 0==45) with
   | true=>
    grind
   | false=>
    rw[show(s.getD 0 0 !=45)=true by unfold bne;rw[f];rfl];simp only[cond_true,cond_false];cases g:(s.getD (s.length-1) 0==45) with
    | true=>
     grind
    | false=>
     rw[show(s.getD (s.length-1) 0 !=45)=true by unfold bne;rw[g];rfl];simp only[cond_false];refine b8 (NL s k s.length 0 LF (by omega) (by omega)) ?_;rw[k9];cases o:s.all P8 with
     | false=>simp
     | true=>
      rw[if_pos rfl];simp only[j1,r9,v7];by_cases p:s.length<4
      ·rw[A8];have:xnB.isPrefixOf s=false:=by
        rw[j4,ne_eq,List.isPrefixOf_iff_prefix];intro h;have:=h.length_le;simp only[xnB,o5,u3] at this;omega
       grind
      ·rw[A4,cond_false,Kb,cond_true,Bk];have l:(z7 (a8 4) s==([120,110,45,45]:List UInt8))=xnB.isPrefixOf s:=YP s (by omega);rw[l];cases q:xnB.isPrefixOf s with
       | false=>rfl
       | true=>
        rw[Kb,Af];simp only[j5,cond_false,cond_true];rw[Q0 (by rw[j0];omega)];rfl
end
end Go.Proofs.YtigcfngmhpofjaaGreatDoor.E
